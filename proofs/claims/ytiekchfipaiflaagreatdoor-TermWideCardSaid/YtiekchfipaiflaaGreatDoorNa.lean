/- From a function's contract to a row: what the listed variables hold, read as the lift reads it; the row's own words. -/
import Derived.Test.YtiekchfipaiflaaGreatDoorMf
import Derived.Test.YtiekchfipaiflaaGreatDoorCards
import Derived.Test.YtiekchfipaiflaaGreatDoorTie
import Derived.ProofKit
import Derived.OpenShut
import Derived.LaidMore
import Derived.Lay
import Derived.SevenTiedAt
import Derived.Stop.Joined
namespace Go.Proofs.YtiekchfipaiflaaGreatDoor
open Go Go.ChangeShapes Go.WideShapes Go.ChangeAt Go.RowKit

def memW (W : World) : Mem := fun r => W.heap[r]?

theorem rd_var {P : Program} {W : World} {n : String} {g : Nat} {cs : Array Value} (hg : P.globalNamed n = some g) (hv : W.var? P n = some cs) (i : Nat) : rd (memW W) (some ⟨g, 0, none⟩) i = cs[i]? := by
  simp only [World.var?, hg, Option.bind_some] at hv
  split at hv
  · rename_i c t fr h; cases hv; simp [rd, memW, h]
  · cases hv

def pairD (s : Int × Int) : DataW Unit := .agg [.lit (.int .i32 s.1), .lit (.int .i32 s.2)]

theorem pairs_cells {enc : TypeId × Value → Unit} {P : Program} {W : World} {sp : Nat → Bool} {held : Bool} {fuel t e n : Nat} {cs : List Value} {l : List (Int × Int)} {p}
    {fs : Array Field} {f0 f1 : Field} (ht : P.underlying t = some (.array n e)) (he : P.underlying e = some (.struct fs)) (hfs : fs.toList = [f0, f1]) (t0 : P.underlying f0.type = some (.int .i32)) (t1 : P.underlying f1.type = some (.int .i32))
    (o0 : f0.offset = 0) (o1 : f1.offset = 1) (c0 : P.cellsOf f0.type = 1) (c1 : P.cellsOf f1.type = 1) (ce : P.cellsOf e = 2)
    (h : DataW.trod enc P W 0 sp held fuel t cs = some (.agg (l.map pairD), p)) (k : Nat) (hk : k < l.length) :
    (cs[k * 2 + 0]? = some (.int .i32 l[k].1) ∧ okInt .i32 l[k].1) ∧ (cs[k * 2 + 1]? = some (.int .i32 l[k].2) ∧ okInt .i32 l[k].2) := by
  obtain ⟨xs, m, _, ex, _, hl, hel⟩ := DataW.trod_array ht h
  have e1 : xs.map (·.1) = l.map pairD := (DataW.agg.inj (Prod.mk.inj ex).1).symm
  have hlen : xs.length = l.length := by have := congrArg List.length e1; simpa using this
  have hE := hel k (by omega)
  rw [ce, List.getElem?_eq_getElem (by omega : k < xs.length)] at hE
  have e2 : xs[k].1 = pairD l[k] := by
    have := congrArg (·[k]?) e1
    simp only [List.getElem?_map] at this
    rw [List.getElem?_eq_getElem (by omega : k < xs.length), List.getElem?_eq_getElem hk] at this
    simpa using this
  obtain ⟨ys, m', _, ey, hlen2, hly, hey⟩ := DataW.trod_struct he hE
  have e3 : ys.map (·.1) = [.lit (.int .i32 l[k].1), .lit (.int .i32 l[k].2)] := by
    have : xs[k].1 = .agg (ys.map (·.1)) := congrArg Prod.fst ey
    rw [e2] at this
    exact (DataW.agg.inj this).symm
  obtain ⟨y0, y1, rfl⟩ : ∃ y0 y1, ys = [y0, y1] := by
    have hl2 : ys.length = 2 := by have := congrArg List.length e3; simpa using this
    rcases ys with _ | ⟨a, _ | ⟨b, _ | ⟨c, r⟩⟩⟩ <;> simp at hl2
    exact ⟨a, b, rfl⟩
  simp only [List.map_cons, List.map_nil, List.cons.injEq, and_true] at e3
  have g0 : fs[0]? = some f0 := by rw [← Array.getElem?_toList, hfs]; rfl
  have g1 : fs[1]? = some f1 := by rw [← Array.getElem?_toList, hfs]; rfl
  have h0 := hey 0 f0 g0
  have h1 := hey 1 f1 g1
  rw [o0, c0] at h0
  rw [o1, c1] at h1
  obtain ⟨a, ha, ea, wa⟩ := DataW.trod_int t0 h0
  obtain ⟨b, hb, eb, wb⟩ := DataW.trod_int t1 h1
  have ka : a = l[k].1 := by have := e3.1; rw [ea] at this; simpa using this
  have kb : b = l[k].2 := by have := e3.2; rw [eb] at this; simpa using this
  subst ka; subst kb
  have get : ∀ (j : Nat) (z : Value), (((cs.drop (k * 2)).take 2).drop j).take 1 = [z] → cs[k * 2 + j]? = some z := by
    intro j z hz
    have : ((((cs.drop (k * 2)).take 2).drop j).take 1)[0]? = some z := by rw [hz]; rfl
    rw [List.getElem?_take] at this
    simp only [Nat.zero_lt_one, if_true, List.getElem?_drop, List.getElem?_take] at this
    split at this
    · simpa using this
    · cases this
  have okw : ∀ n : Int, (Lit.int .i32 n).wf = true → okInt .i32 n := by
    intro n hn
    simp only [Lit.wf, Bool.and_eq_true, decide_eq_true_eq] at hn
    exact .inr hn
  exact ⟨⟨get 0 _ ha, okw _ wa⟩, get 1 _ hb, okw _ wb⟩

/-- The call, out of a function's contract: it gives its answer, nothing that was there turns. -/
theorem calls_of_spec {P : Program} {G : Glob} {K : FuncId} {args : List V} {y : Bool} {W : World} {vals : Array Value} (h : Spec P G K args [] (.b y) []) (hG : GR G (memW W)) (hA : VRs (memW W) noSig args vals) :
    Calls P K vals W fun e w' => e = .returned (.bool y) ∧ sameIO W w' ∧ ∀ (r : Nat) (o : Obj), W.heap[r]? = some o → w'.heap[r]? = some o := by
  refine (h (memW W) noSig ⟨memW W, W.os, W.output⟩ W vals hG hA ?_).mono ?_
  · refine ⟨?_, ?_, ?_, fun r o h => h, fun r o h => h, ?_, rfl, rfl⟩
    · intro i L h; cases h
    · intro i b h; simp [hOf] at h
    · intro i j b c L M h; simp [hOf] at h
    · intro i b L h; simp [hOf] at h
  · rintro e w' ⟨val, ρ', σ', he, hv, _, _, hH⟩
    cases hv
    exact ⟨he, hH.io, hH.frame⟩

theorem keptBut_of {W w' : World} {may : MemPlace → Prop} (hio : sameIO W w') (h : ∀ (r : Nat) (o : Obj), W.heap[r]? = some o → w'.heap[r]? = some o) : W.keptBut w' may := by
  refine ⟨hio.1, hio.2, fun i hi => ?_⟩
  have e := h i _ (Array.getElem?_eq_getElem hi)
  rw [e, Array.getElem?_eq_getElem hi]
  cases W.heap[i] <;> simp

theorem frozen_of {W w' : World} (h : ∀ (r : Nat) (o : Obj), W.heap[r]? = some o → w'.heap[r]? = some o) (a : Addr) (ha : a.block < W.heap.size) : w'.frozen? a = W.frozen? a := by
  have e := h a.block _ (Array.getElem?_eq_getElem ha)
  simp only [World.frozen?, e, Array.getElem?_eq_getElem ha]

/-- The row's post, where the call answers and nothing that was there turns. -/
theorem post_of_old {H : Type} {enc : TypeId × Value → H} {P : Program} {f : Func} {s : ChangeSpec} {apart fresh handsOn again : Bool} {W W' : World} {args : Array Value} {v : Value} {ds gs : List (DataW H)} {before pa pv : List MemPlace}
    (hW : DataW.Whole enc P f.params.toList s.vars apart W args.toList ds gs before)
    (hres : ∀ (b : Nat) (sp : Nat → Bool) (hd : Bool), DataW.TrodAll enc P W' b sp hd f.resultTypes.toList (v.resultList f.resultTypes.size) (s.fn H (ds ++ gs)).results [])
    (hargs : ∀ sp : Nat → Bool, (∀ p ∈ before, sp p.block = true) → DataW.TrodAll enc P W' 0 sp true f.params.toList args.toList (s.fn H (ds ++ gs)).args pa)
    (hvars : ∀ sp : Nat → Bool, (∀ p ∈ before, sp p.block = true) → DataW.TrodVars enc P W' sp s.vars (s.fn H (ds ++ gs)).vars pv)
    (hps : before = pa ++ pv) (hk : W.keptBut W' (· ∈ before)) (hfz : ∀ a : Addr, a.block < W.heap.size → W'.frozen? a = W.frozen? a)
    (hok : ∀ (j : Nat) (t : TypeId) (r : Value), f.resultTypes[j]? = some t → (v.resultList f.resultTypes.size)[j]? = some r → Value.okWide P W' .any 0 t r) :
    s.post enc P f apart fresh handsOn again W args v W' := by
  have hold : ∀ p ∈ before, (fun b => decide (b < W.heap.size)) p.block = true := fun p hp => by simpa using hW.lt p hp
  refine ⟨ds, gs, before, [], pa, pv, hW, hres _ _ _, hargs _ hold, hvars _ hold, World.keptBut_mono (fun p hp => ⟨hp, ?_⟩) hk, fun _ => ?_⟩
  · rw [hps, List.mem_append] at hp
    exact Or.inr hp
  · have hlt := hW.lt
    obtain ⟨_, _, _, _, _, hz, hn⟩ := hW
    refine ⟨hok, _, _, ([] ++ pa) ++ pv, ⟨[] ++ pa, pv, trodAll_append (hargs _ (fun _ _ => rfl)) (hres _ _ _), hvars _ (fun _ _ => rfl), rfl, ?_, ?_⟩, ?_⟩
    · intro b off hp
      have hp' : MemPlace.cell b off ∈ before := by rw [hps]; simpa using hp
      rw [hfz _ (hlt _ hp')]
      exact hz b off hp'
    · intro ha
      have := hn ha
      rw [hps] at this
      simpa using this
    · intro p hp _
      rw [hps]
      simpa using hp
end Go.Proofs.YtiekchfipaiflaaGreatDoor
