/- Ranging over a function: the loop's record lies in the frame; a round runs in a frame of its own on the slots that were caught. -/
import Derived.Test.YtiekchfipaiflaaGreatDoorMe
import Derived.RangeFuncCalls
namespace Go.Proofs.YtiekchfipaiflaaGreatDoor
open Go

/-- A loop over a function: what its record holds. -/
structure RF where
  fid : FuncId
  T : Array Value
  tp : Nat
  assign : Code
  body : Code
  d : Nat
  l : Nat
def RF.rc (r : RF) (st : LoopState) : Loop := { state := st, pending := none, fn := r.fid, tmps := r.T, params := #[r.tp], assign := r.assign, body := r.body, defers := r.d }
def yieldV (l : Nat) : Value := .func (.yield l) #[] #[]

def RF.cxi (r : RF) (base : Cx) : Cx := base.set r.l (.loop (r.rc .ready))
def RF.cxa (r : RF) (base : Cx) : Cx := { base.set r.l (.loop (r.rc .ready)) with ro := some r.l }
def RF.cxb (r : RF) (base : Cx) : Cx := { base.set r.l (.loop (r.rc .busy)) with ro := some r.l }

/-- Values that name no block but those that lay when the loop began. -/
def lowV (N : Nat) : V → Bool
  | .p id _ _ => Nat.blt id N
  | .sl id _ _ => Nat.blt id N
  | .u | .b _ | .i .. | .s _ | .nilp | .nils | .rp .. | .ro .. | .nilfn | .niliface | .fl .. | .val _ => true
  | .tup l => match l with
    | [] => true
    | _ => false
  | _ => false
def lowE (N : Nat) : Env → Bool
  | [] => true
  | (_, e) :: r => (match e.g with
    | none => lowV N e.v
    | some _ => false) && lowE N r

structure RFok (r : RF) (base : Cx) (n N : Nat) (E : Env) : Prop where
  ro : base.ro = none
  dfs : base.dfs = []
  F : base.F r.l = none
  ρ : base.ρ r.l = none
  env : EnvR base.ρ base.σ (look E) n r.T
  dom : ∀ i L, base.σ i = some L → i < N

theorem lowV_ok {ρ ρ' : Mem} {σ σ' : Sig} {N : Nat} {v x} (hρ : leM ρ ρ') (hσ : leN N σ σ') (hl : lowV N v = true) (h : VR ρ σ v x) : VR ρ' σ' v x := by
  cases h with
  | u => exact .u
  | b => exact .b
  | i h => exact .i h
  | s h => exact .s h
  | nilp => exact .nilp
  | p h => exact .p (hσ _ (by simpa [lowV] using hl) _ h)
  | rp g hr hv => exact .rp g (fun k hk j hj => rd_mono hρ (hr k hk j hj)) (fun k hk j hj => (hv k hk j hj).mono hρ (leS.refl _))
  | nils => exact .nils
  | sl h hle hc => exact .sl (hσ _ (by simpa [lowV] using hl) _ h) hle hc
  | ro g hle hr hv => exact .ro g hle (fun k hk j hj => rd_mono hρ (hr k hk j hj)) (fun k hk j hj => (hv k hk j hj).mono hρ (leS.refl _))
  | nilfn => exact .nilfn
  | niliface => exact .niliface
  | fl => exact .fl
  | val => exact .val
  | tup hn h =>
    rename_i l cs
    cases l with
    | nil => exact .tup hn (fun i hi => by simp at hn; omega)
    | cons => cases hl
  | agg => cases hl
  | fn => cases hl
  | iface => cases hl

theorem lowE_ok {ρ ρ' : Mem} {σ σ' : Sig} {N : Nat} {n : Nat} {T : Array Value} (hρ : leM ρ ρ') (hσ : leN N σ σ') : ∀ {E : Env}, lowE N E = true → EnvR ρ σ (look E) n T → EnvR ρ' σ' (look E) n T := by
  intro E hE h
  refine ⟨h.1, fun t e he => ?_⟩
  obtain ⟨h1, h2⟩ := h.2 t e he
  refine ⟨h1, ?_⟩
  have key : ∀ (E : Env), lowE N E = true → look E t = some e → e.g = none ∧ lowV N e.v = true := by
    intro E; induction E with
    | nil => intro _ h; cases h
    | cons x E ih =>
      obtain ⟨u, f⟩ := x
      intro hl hk
      simp only [lowE, Bool.and_eq_true] at hl
      simp only [look] at hk
      split at hk
      · cases hk
        have := hl.1
        split at this
        · rename_i hg; exact ⟨hg, this⟩
        · cases this
      · exact ih hl.2 hk
  obtain ⟨h3, h4⟩ := key E hE he
  unfold entR at h2 ⊢
  rw [h3] at h2 ⊢
  exact lowV_ok hρ hσ h4 h2

section
variable {P : Program} {G : Glob} {n K0 : Nat} {cx : Cx}

theorem runR_okI {ro : Option Nat} {mm : Nat} {ρ0 : Mem} {σ0 : Sig} {F : Fr} {ops : Array Oper} {Q : Exit → Act → World → Prop} (hdst : ∀ o ∈ ops.toList, ∀ d, o.dst = some d → d < n) (hnd : ∀ o ∈ ops.toList, ∀ c, o.op ≠ .defer c) {tl : List Oper} :
    ∀ (os : List Oper) (k : Nat) (ans : List (RAnn P G)) (st st' : PSt) (ρ : Mem) (σ : Sig) (a : Act) (w : World),
      ops.toList.drop k = os ++ tl → runR ops.toList os ans st = some st' → allP st'.C → allS st'.S → allT st'.T →
      leR F ρ0 ρ → leS σ0 σ → Bears G ρ σ F n (look st.env) st.H st.N a w →
      (∀ ρ' σ' a' w', leR F ρ0 ρ' → leS σ0 σ' → a'.defers = a.defers → Bears G ρ' σ' F n (look st'.env) st'.H st'.N a' w' → wpOpsIn (FW ro) mm P ops Q (List.range' (k + os.length) tl.length) a' w') →
      wpOpsIn (FW ro) mm P ops Q (List.range' k (os.length + tl.length)) a w := by
  intro os; induction os with
  | nil =>
    intro k ans st st' ρ σ a w _ h hC hS hT hρ hσ hB hQ
    cases ans with
    | nil => cases h; simpa using hQ ρ σ a w hρ hσ rfl hB
    | cons => cases h
  | cons o os ih =>
    intro k ans st st' ρ σ a w hk h hC hS hT hρ hσ hB hQ
    cases ans with
    | nil => cases h
    | cons an ans =>
      have hmono := runR_mono (o :: os) (an :: ans) st st' h
      unfold runR at h
      split at h
      · cases h
      · rename_i r hr
        split at h
        · cases h
        · rename_i N hN
          split at h
          · rename_i hlow
            obtain ⟨m1, m2, m3⟩ := runR_mono _ _ _ _ h
            have hC' := (allP_append (m1 hC)).2
            have hS' := (allS_append (m2 hS)).2
            have hT' := (allT_append (m3 hT)).2
            obtain ⟨hle, hnd', hfr⟩ := takes_ok hN
            have hko : ops[k]? = some o := by
              have : ops.toList[k]? = some o := by
                have := congrArg (·[0]?) hk
                simpa [List.getElem?_drop] using this
              simpa using this
            have hmem : o ∈ ops.toList := List.mem_of_getElem? (by simpa using hko : ops.toList[k]? = some o)
            rw [show (o :: os).length + tl.length = (os.length + tl.length) + 1 from by simp only [List.length_cons]; omega, List.range'_succ]
            simp only [wpOpsIn, hko]
            have main := stepR_ok (P := P) (o := o) (ops := ops) (a := a) (w := w) (K := fun a w => wpOpsIn (FW ro) mm P ops Q (List.range' (k + 1) (os.length + tl.length)) a w) (Q := onlyN (fun _ _ => True)) hr hC' hS' hT' hB.gr hB.env hB.inv (fun i hi => by
              cases hs : σ i with
              | none => rfl
              | some L => have := hB.inv.dom i L hs; have := (hfr i hi).1; omega) hnd' (by
              intro x ρ' σ' w' hρ' hσ' he hH'
              refine ih (k + 1) ans _ st' ρ' σ' _ w' ?_ h hC hS hT (hρ.trans hρ') (hσ.trans hσ') ?_ ?_
              · rw [← List.drop_drop, hk]; rfl
              · refine ⟨hB.gr.mono hρ'.m, EnvR_put (hB.env.mono hρ'.m hσ') (hdst o hmem) he, hH'.wider (fun i hi => ?_)⟩
                rcases hi with hi | hi
                · exact Nat.lt_of_lt_of_le hi hle
                · exact wrLow_ok hlow i hi
              · intro ρ'' σ'' a'' w'' h1 h2 h3 h4
                rw [show k + 1 + os.length = k + (o :: os).length from by simp only [List.length_cons]; omega]
                exact hQ ρ'' σ'' a'' w'' h1 h2 (by rw [h3]; cases o.dst <;> rfl) h4)
            split
            · rename_i hw
              rw [if_pos hw] at main
              exact op_in (hnd o hmem) main
            · rename_i hw
              rw [if_neg hw] at main
              exact ⟨fun _ _ => trivial, main⟩
          · cases h

def yieldRun {P : Program} {G : Glob} (c : Code) (n m : Nat) (an : List (RAnn P G)) (E : Env) (hs : List (Option Blk)) : Option (PSt × Nat × V × V) :=
  match c with
  | .region _ ops false => match dstsLow n ops.toList, ops.toList.drop m with
    | true, ⟨some ty, .call ⟨.value tf, args, _⟩, _, _, _, none⟩ :: _ => match args.toList with
      | [ta] => match runR ops.toList (ops.toList.take m) an ⟨[], [], [], E, hOf hs, hs.length⟩ with
        | some st => match gO (look st.env) tf, gO (look st.env) ta with
          | none, none => some (st, ty, evO G (look st.env) tf, evO G (look st.env) ta)
          | _, _ => none
        | none => none
      | _ => none
    | _, _ => none
  | _ => none
def yieldRun2 {P : Program} {G : Glob} (c : Code) (m : Nat) (an : List (RAnn P G)) (E : Env) (hs : List (Option Blk)) : Option PSt :=
  match c with
  | .region _ ops false => runR ops.toList (ops.toList.drop (m + 1)) an ⟨[], [], [], E, hOf hs, hs.length⟩
  | _ => none

theorem WG.yield {Q : Exit → Act → World → Prop} {X : Type} {r : RF} {base : Cx} {nI n N : Nat} {c : Code} {k : List It} {E hs E1 E2 E0 Eb} {ty : Nat} {v : V} {C1 C2 : List Prop} (ok : RFok r base n N E0)
    (m : Nat) (an1 an2 : List (RAnn P G)) (hC1 : allP C1) (hr1 : yieldRun c nI m an1 E hs = some (⟨C1, [], [], E1, hOf hs, hs.length⟩, ty, .val (yieldV r.l), v)) (hl1 : lowE N E1 = true) (htp : Nat.blt r.tp n = true)
    (ha : ∀ base I, (∀ a w, (r.cxa base).In G n N Eb hs a w → I a w) → WG P G n N (fun _ _ _ => False) (r.cxa base) [.code r.assign, .again I] ((r.tp, ⟨none, v⟩) :: E0) hs)
    (Lp : X → Prop) (hs' : X → List (Option Blk))
    (hb : ∀ base I, (∀ x, Lp x → ∀ a w, (r.cxb base).In G n N [] (hs' x) a w → I a w) → WG P G n N (fun _ _ _ => False) (r.cxb base) [.code r.body, .again I] Eb hs)
    (hC2 : allP C2) (hr2 : ∀ x, yieldRun2 c m an2 ((ty, ⟨none, .b true⟩) :: E1) (hs' x) = some ⟨C2, [], [], E2, hOf (hs' x), (hs' x).length⟩)
    (next : ∀ x, Lp x → WG P G nI N Q (r.cxi base) k E2 (hs' x)) : WG P G nI N Q (r.cxi base) (.code c :: k) E hs := by
  unfold yieldRun at hr1
  split at hr1
  · rename_i id ops
    split at hr1
    · rename_i ty tf args ats T1 pos af post hlow hdrop
      split at hr1
      · rename_i ta hargs
        obtain rfl : args = #[ta] := Array.ext' (by rw [hargs])
        split at hr1
        · rename_i st hrun
          split at hr1
          · rename_i hgf hga
            injection hr1 with hr1
            injection hr1 with e1 e2
            injection e2 with e2 e3
            injection e3 with e3 e4
            subst e1; subst e2
            have hdst := dstsLow_ok hlow
            have hnd := noDefer_ok hlow
            have hm : m < ops.toList.length := by
              rcases Nat.lt_or_ge m ops.toList.length with h | h
              · exact h
              · rw [List.drop_eq_nil_of_le h] at hdrop; cases hdrop
            rintro a w ⟨hd, ρ1, σ1, h1, h2, hB⟩
            have hro : (r.cxi base).ro = none := ok.ro
            show (Code.region id ops false).wpIn (FW (r.cxi base).ro) 0 P (ExK (r.cxi base).ro P Q k) a w
            rw [hro]
            refine wpIn_region ?_
            have hlen : ops.size = (ops.toList.take m).length + (⟨some ty, .call ⟨.value tf, #[ta], ats⟩, T1, pos, af, none⟩ :: post : List Oper).length := by
              have := congrArg List.length (List.take_append_drop m ops.toList)
              rw [hdrop] at this
              rw [List.length_append] at this
              rw [← Array.length_toList]; omega
            have htk : (ops.toList.take m).length = m := by rw [List.length_take]; omega
            rw [List.range_eq_range', hlen]
            refine runR_okI (ρ0 := ρ1) (σ0 := σ1) (F := (r.cxi base).F) hdst hnd (tl := ⟨some ty, .call ⟨.value tf, #[ta], ats⟩, T1, pos, af, none⟩ :: post) (ops.toList.take m) 0 an1 _ _ ρ1 σ1 a w
              (by rw [← hdrop]; simp) hrun hC1 trivial trivial (leR.refl _ _) (leS.refl _) hB ?_
            intro ρ2 σ2 a2 w2 g1 g2 g3 g4
            rw [htk]
            have hko : ops[0 + m]? = some ⟨some ty, .call ⟨.value tf, #[ta], ats⟩, T1, pos, af, none⟩ := by
              have : ops.toList[m]? = some ⟨some ty, .call ⟨.value tf, #[ta], ats⟩, T1, pos, af, none⟩ := by
                have := congrArg (·[0]?) hdrop
                simpa [List.getElem?_drop] using this
              simpa using this
            have hmem : (⟨some ty, .call ⟨.value tf, #[ta], ats⟩, T1, pos, af, none⟩ : Oper) ∈ ops.toList := List.mem_of_getElem? (by simpa using hko : ops.toList[m]? = _)
            have hty : ty < nI := hdst _ hmem ty rfl
            rw [show (⟨some ty, .call ⟨.value tf, #[ta], ats⟩, T1, pos, af, none⟩ :: post : List Oper).length = post.length + 1 from rfl, List.range'_succ]
            simp only [wpOpsIn, hko]
            rw [if_pos (by simp [Region.wanted])]
            have hvf := evO_ok (x := tf) g4.gr g4.env (fun e he => by rw [hgf] at he; cases he)
            have hva := evO_ok (x := ta) g4.gr g4.env (fun e he => by rw [hga] at he; cases he)
            rw [e3] at hvf
            rw [e4] at hva
            have hfe : a2.eval tf = yieldV r.l := by generalize a2.eval tf = z at hvf ⊢; cases hvf; rfl
            have hrec : w2.heap[r.l]? = some (.loop (r.rc .ready)) := g4.inv.frame r.l _ (by simp [RF.cxi, Cx.set])
            have hrunY : (execOp a2.eval ⟨some ty, .call ⟨.value tf, #[ta], ats⟩, T1, pos, af, none⟩).run P w2 = .ok (.round r.l r.fid (r.T.setIfInBounds r.tp (a2.eval ta)) r.assign r.body) w2 := by
              have hy := run_yield (P := P) (args := #[a2.eval ta]) hrec (by simp [RF.rc])
              simp only [execOp, resolve, hfe, yieldV, Deferred.ofValue, Sem.run_bind, Sem.run_pure, Result.andThen_ok, invoke]
              simpa [RF.rc] using hy
            refine ⟨fun _ _ => trivial, ?_⟩
            rw [FW_round, Oper.semAt_none, hrunY, Oper.uponIn_round]
            refine ⟨(fun h => by cases h), ?_⟩
            -- the round, from where memory stands now
            have hl2 : leN N base.σ σ2 := h2.trans fun i hi L hL => g2 i L hL
            have hρ2 : leR (r.cxi base).F base.ρ ρ2 := h1.trans g1
            have hσb : leS base.σ σ2 := fun i L hL => hl2 i (ok.dom i L hL) L hL
            have hρl : ρ2 r.l = none := ρ_none (cx := base) hρ2 ok.ρ
            let b2 : Cx := { base with ρ := ρ2, σ := σ2 }
            have hEn : (r.cxa b2).In G n N ((r.tp, ⟨none, v⟩) :: E0) hs { tmps := r.T.setIfInBounds r.tp (a2.eval ta), defers := [] } w2 := by
              refine ⟨ok.dfs.symm, ρ2, σ2, leR.refl _ _, leN.refl _ _, g4.gr, ?_, g4.inv⟩
              exact EnvR_put (a := { tmps := r.T, defers := [] }) (d := some r.tp) (e := ⟨none, v⟩) (ok.env.mono hρ2.m hσb) (fun t ht => by cases ht; simpa using htp) hva
            refine roundIn_of_wpIn (F := FW none) trivial ?_
            have hround := ha b2 (fun a₁ w₁ => ∃ w₂, (Instr.beginRound r.l).run P w₁ = .ok () w₂ ∧ r.body.wpIn (FW (some r.l)) 0 P (roundPost P r.l fun
                | .returned v', w'' => wpOpsIn (FW none) 0 P ops (ExK none P Q k) (List.range' (0 + m + 1) post.length) (a2.put (some ty) v') w''
                | .panicked chain, w'' => ExK none P Q k (.panic chain) a2 w''
                | .outgrown, _ => LetsOut (ExK none P Q k)) a₁ w₂) ?_ _ w2 hEn
            · exact hround
            -- the body
            rintro a3 w3 ⟨hd3, hc3⟩
            have hrec3 : w3.heap[r.l]? = some (.loop (r.rc .ready)) := by
              obtain ⟨ρ3, σ3, _, _, hB3⟩ := hc3
              exact hB3.inv.frame r.l _ (by simp [RF.cxa, Cx.set])
            refine ⟨_, run_beginRound hrec3 rfl, ?_⟩
            have hlt3 : r.l < w3.heap.size := some_lt hrec3
            have hc4 : (r.cxb b2).C G n N Eb hs a3 (w3.putObj r.l (.loop { r.rc .ready with state := .busy })) :=
              Cx.C.re (cx := { b2 with ro := some r.l }) (r := r.l) (o := .loop (r.rc .ready)) (o' := .loop (r.rc .busy)) (a := a3) (w := w3) hρl ⟨⟨rfl, rfl⟩, fun q hq => World.putObj_heap_other hq⟩ (World.putObj_heap_same hlt3) (fun _ _ h => h) hc3
            have hbody := hb b2 (fun a₁ w₁ => ∃ v' w', (Instr.endRound r.l none).run P w₁ = .ok v' w' ∧ wpOpsIn (FW none) 0 P ops (ExK none P Q k) (List.range' (0 + m + 1) post.length) (a2.put (some ty) v') w') ?_ a3 _ ⟨hd3, hc4⟩
            · refine wpIn_mono hbody ?_
              intro e a w h
              cases e with
              | normal => exact h
              | _ => exact h.elim
            -- behind it
            rintro x hx a5 w5 ⟨_, hc5⟩
            have hrec5 : w5.heap[r.l]? = some (.loop (r.rc .busy)) := by
              obtain ⟨ρ5, σ5, _, _, hB5⟩ := hc5
              exact hB5.inv.frame r.l _ (by simp [RF.cxb, Cx.set])
            have hlt5 : r.l < w5.heap.size := some_lt hrec5
            refine ⟨_, _, run_endRound none hrec5, ?_⟩
            have hc6 : (r.cxi b2).C G n N [] (hs' x) a5 (w5.putObj r.l (.loop { r.rc .busy with state := if (none : Option Code).isNone then .ready else .done, pending := none })) :=
              Cx.C.re (cx := b2) (r := r.l) (o := .loop (r.rc .busy)) (o' := .loop (r.rc .ready)) (a := a5) (w := w5) hρl ⟨⟨rfl, rfl⟩, fun q hq => World.putObj_heap_other hq⟩ (by rw [World.putObj_heap_same hlt5]; rfl) (fun _ _ h => h) hc5
            obtain ⟨ρ6, σ6, k1, k2, hB6⟩ := hc6
            have henv : EnvR ρ6 σ6 (look ((ty, ⟨none, .b true⟩) :: E1)) nI (a2.put (some ty) (.bool true)).tmps :=
              EnvR_put (d := some ty) (e := ⟨none, .b true⟩) (lowE_ok k1.m k2 hl1 g4.env) (fun t ht => by cases ht; exact hty) .b
            have hp2 := hr2 x
            simp only [yieldRun2] at hp2
            have hpd : ops.toList.drop (m + 1) = post := by
              rw [← List.drop_drop, hdrop]; rfl
            rw [hpd] at hp2
            have fin := runR_okI (ro := none) (mm := 0) (Q := ExK none P Q k) (ρ0 := ρ6) (σ0 := σ6) (F := (r.cxi base).F) (n := nI) hdst hnd (tl := []) post (m + 1) an2 _ _ ρ6 σ6 (a2.put (some ty) (.bool true)) _
              (by rw [hpd]; simp) hp2 hC2 trivial trivial (leR.refl _ _) (leS.refl _) ⟨hB6.gr, henv, hB6.inv⟩ (fun ρ7 σ7 a7 w7 q1 q2 q3 q4 => by
                have := next x hx a7 w7 ⟨?_, ρ7, σ7, (hρ2.trans k1).trans q1, (hl2.trans k2).trans fun i hi L hL => q2 i L hL, q4⟩
                · rw [hro] at this
                  simpa [wpOpsIn] using this
                · rw [q3]; simp only [Act.put]; rw [g3, hd])
            simpa [Nat.add_comm] using fin
          · cases hr1
        · cases hr1
      · cases hr1
    · cases hr1
  · cases hr1

theorem argEnvR {ρ : Mem} {σ : Sig} {args : List V} {vals : Array Value} {m : Nat} (hA : VRs ρ σ args vals) (hlen : args.length ≤ m) : EnvR ρ σ (look (argEnv 0 args)) m (vals ++ Array.replicate (m - vals.size) undef) := by
  refine ⟨?_, fun t e he => ?_⟩
  · simp only [Array.size_append, Array.size_replicate]
    have := hA.1; omega
  · obtain ⟨_, h2, h3, h4⟩ := argEnv_look args 0 t e he
    simp only [Nat.zero_add, Nat.sub_zero] at h2 h4
    have hlt : t < vals.size := by rw [← hA.1]; exact h2
    refine ⟨by omega, ?_⟩
    unfold entR
    rw [h3, h4]
    have : (vals ++ Array.replicate (m - vals.size) undef).getD t undef = vals[t] := by
      simp [Array.getD_eq_getD_getElem?, Array.getElem?_append_left hlt, Array.getElem?_eq_getElem hlt]
    rw [this]
    exact hA.2 t hlt

/-- What the function that is ranged over ends with. -/
def RF.QE (r : RF) (base : Cx) (G : Glob) (nI N : Nat) {X : Type} (Lend : X → Prop) (hsE : X → List (Option Blk)) (e : Exit) (a : Act) (w : World) : Prop :=
  (e = .normal ∨ e = .ret) ∧ ∃ x, Lend x ∧ (r.cxi base).In G nI N [] (hsE x) a w

theorem WG.rangeF {Q : Exit → Act → World → Prop} {X : Type} {k : List It} {E hs} {tg tp : Nat} {gf : FuncId} {caps : List V} {assign body : Code} {fg : Func} {cg : Code} {nI : Nat} (hro : cx.ro = none) (hE : look E tg = some ⟨none, .fn (.func gf) [] caps⟩)
    (hf : P.funcs[gf]? = some fg) (hb : fg.body = some cg) (hn : fg.ntmps = nI) (hres : ∀ tmps w, ∃ v, (results fg tmps).run P w = .ok v w) (enter : ∀ args w, (callFunc gf args).run P w = .ok (.enter gf args) w)
    (hlen : Nat.ble (caps.length + 1) nI = true) (hK : Nat.ble K0 hs.length = true) (Lend : X → Prop) (hsE : X → List (Option Blk))
    (it : ∀ (r : RF) (base : Cx), r.tp = tp → r.assign = assign → r.body = body → RFok r base n hs.length E → WG P G nI hs.length (r.QE base G nI hs.length Lend hsE) (r.cxi base) [.code cg] (argEnv 0 (.val (yieldV r.l) :: caps)) hs)
    (next : ∀ x, Lend x → ∀ d, cx.F d = none → cx.ρ d = none → WG P G n K0 Q (cx.add d) k E (hsE x)) : WG P G n K0 Q cx (.code (.rangeFunc (.tmp tg) #[tp] assign body) :: k) E hs := by
  rintro a w ⟨hd, hc⟩
  obtain ⟨hF1, hρ1, hc1⟩ := Cx.C.alloc (.deferred (some [])) hc
  show (Code.rangeFunc (.tmp tg) #[tp] assign body).wpIn (FW cx.ro) 0 P (ExK cx.ro P Q k) a w
  rw [hro]
  refine wpIn_rangeFunc fun fid hfid => ?_
  obtain ⟨hF2, hρ2, hc2⟩ := Cx.C.alloc (.loop { state := .ready, pending := none, fn := fid, tmps := a.tmps, params := #[tp], assign, body, defers := w.heap.size }) hc1
  have hsz : (w.alloc (.deferred (some []))).heap.size = w.heap.size + 1 := World.size_alloc _ _
  rw [hsz] at hF2 hρ2 hc2
  obtain ⟨ρ0, σ0, g1, g2, g3⟩ := hc2
  have hv := (g3.env.2 tg _ hE).2
  simp only [entR] at hv
  generalize hgv : a.tmps.getD tg undef = gv at hv
  cases hv
  rename_i F1 C1 q1 q2 q3 q4
  have hF10 : F1 = #[] := Array.eq_empty_of_size_eq_zero (by simpa using q1.symm)
  subst hF10
  have hVC : VRs ρ0 σ0 caps C1 := ⟨q3, q4⟩
  let r : RF := ⟨fid, a.tmps, tp, assign, body, w.heap.size, w.heap.size + 1⟩
  let base : Cx := { cx.set w.heap.size (.deferred (some [])) with ρ := ρ0, σ := σ0, ro := none, dfs := [] }
  have hρl : ρ0 (w.heap.size + 1) = none := ρ_none (cx := cx.set w.heap.size (.deferred (some []))) g1 hρ2
  have ok : RFok r base n hs.length E := ⟨rfl, rfl, hF2, hρl, g3.env, fun i L hL => g3.inv.dom i L hL⟩
  let W1 : World := (w.alloc (.deferred (some []))).alloc (.loop { state := .ready, pending := none, fn := fid, tmps := a.tmps, params := #[tp], assign, body, defers := w.heap.size })
  refine ⟨w.heap.size + 1, _, W1, { target := .fn (.func gf) C1, args := #[yieldV (w.heap.size + 1)] }, W1, gf, #[yieldV (w.heap.size + 1)] ++ C1, W1, run_enterLoop_outer _ _ _ _ _, ?_, fun _ _ => trivial, ?_, (fun h => by cases h), ?_⟩
  · have : a.eval (.tmp tg) = .func (.func gf) #[] C1 := hgv
    have e2 : a.eval (.const (.func (.yield (w.heap.size + 1)) #[] #[])) = yieldV (w.heap.size + 1) := rfl
    simp only [resolve, rangeCall, this, e2, Deferred.ofValue, Sem.run_bind, Sem.run_pure, Result.andThen_ok]
    simp [e2]
  · simp [invoke, enter]
  · have hit := it r base rfl rfl rfl ok { tmps := (#[yieldV (w.heap.size + 1)] ++ C1) ++ Array.replicate (nI - (#[yieldV (w.heap.size + 1)] ++ C1).size) undef, defers := [] } _
      ⟨rfl, ρ0, σ0, leR.refl _ _, leN.refl _ _, g3.gr, argEnvR (args := .val (yieldV (w.heap.size + 1)) :: caps) ⟨?_, ?_⟩ (by simpa using Nat.le_of_ble_eq_true hlen), g3.inv⟩
    · refine callsIn_of_wp hf hb trivial (wpIn_mono (by rw [hn]; exact hit) ?_)
      rintro e a3 w3 ⟨he, x, hx, hd3, hc3⟩
      have hrec3 : w3.heap[r.l]? = some (.loop (r.rc .ready)) := by
        obtain ⟨ρ3, σ3, _, _, hB3⟩ := hc3
        exact hB3.inv.frame r.l _ (by simp [RF.cxi, Cx.set])
      have hpost : rangePost (FW none) 0 P r.l (ExK none P Q k) { a with defers := [{ target := .collected w.heap.size, args := #[] }] ++ a.defers } (.returned (Classical.choose (hres a3.tmps w3))) w3 := by
        refine ⟨none, _, run_endLoop hrec3 (by simp [RF.rc]), ?_⟩
        have hc4 : base.C G nI hs.length [] (hsE x) a3 (w3.putObj r.l (.loop { r.rc .ready with state := .exhausted })) :=
          Cx.C.drop (cx := base) (a := a3) (w := w3) hF2 hρl ⟨⟨rfl, rfl⟩, fun q hq => World.putObj_heap_other hq⟩ rfl hc3
        obtain ⟨ρ4, σ4, k1, k2, hB4⟩ := hc4
        have hnx := next x hx w.heap.size hF1 hρ1 { a with defers := [{ target := .collected w.heap.size, args := #[] }] ++ a.defers } _
          ⟨by show _ = _ :: cx.dfs; rw [← hd]; rfl, ρ4, σ4, ⟨g1.m.trans k1.m, fun q hq => ?_⟩, g2.trans fun i hi L hL => k2 i (Nat.lt_of_lt_of_le hi (Nat.le_of_ble_eq_true hK)) L hL, hB4.gr, ?_, hB4.inv⟩
        · have : (cx.add w.heap.size).ro = none := hro
          rw [this] at hnx
          exact hnx
        · rcases k1.f q hq with h | h
          · rcases g1.f q h with h' | h'
            · exact .inl h'
            · refine .inr ?_
              simp only [Cx.set] at h'
              split at h'
              · cases h'
              · exact h'
          · exact .inr h
        · exact g3.env.mono k1.m (fun i L hL => k2 i (g3.inv.dom i L hL) L hL)
      rcases he with rfl | rfl
      · exact ⟨hd3, _, Classical.choose_spec (hres a3.tmps w3), hpost⟩
      · exact ⟨hd3, _, Classical.choose_spec (hres a3.tmps w3), hpost⟩
    · simp [q3]; omega
    · intro i hi
      rcases Nat.eq_zero_or_pos i with h0 | h0
      · subst h0; simp; exact .val
      · obtain ⟨j, rfl⟩ : ∃ j, i = j + 1 := ⟨i - 1, by omega⟩
        have hj : j < C1.size := by simp at hi; omega
        have := q4 j hj
        simpa [Array.getElem_append_right] using this

theorem WM.rangeF {rs : List ResultVar} {v : V} {hs1 : List (Option Blk)} {X : Type} {k : List It} {E hs} {tg tp : Nat} {gf : FuncId} {caps : List V} {assign body : Code} {fg : Func} {cg : Code} {nI : Nat} {c : Code} (hc : c = .rangeFunc (.tmp tg) #[tp] assign body) (hro : cx.ro = none) (hE : look E tg = some ⟨none, .fn (.func gf) [] caps⟩)
    (hf : P.funcs[gf]? = some fg) (hb : fg.body = some cg) (hn : fg.ntmps = nI) (hres : ∀ tmps w, ∃ v, (results fg tmps).run P w = .ok v w) (enter : ∀ args w, (callFunc gf args).run P w = .ok (.enter gf args) w)
    (hlen : Nat.ble (caps.length + 1) nI = true) (hK : Nat.ble K0 hs.length = true) (Lend : X → Prop) (hsE : X → List (Option Blk))
    (it : ∀ (r : RF) (base : Cx), r.tp = tp → r.assign = assign → r.body = body → RFok r base n hs.length E → WG P G nI hs.length (r.QE base G nI hs.length Lend hsE) (r.cxi base) [.code cg] (argEnv 0 (.val (yieldV r.l) :: caps)) hs)
    (next : ∀ x, Lend x → ∀ d, WM P G n K0 rs v hs1 (cx.add d) k E (hsE x)) : WM P G n K0 rs v hs1 cx (.code c :: k) E hs := by
  subst hc
  exact WG.rangeF hro hE hf hb hn hres enter hlen hK Lend hsE it fun x hx d hF hρ a w hin => ExK_mono (fun e a w hq => Cx.Q.add hF hρ hq) k _ _ _ (next x hx d a w hin)

theorem WG.loopN {Q : Exit → Act → World → Prop} {X Y : Type} {k : List It} {y : Y} {kb : (Act → World → Prop) → List It} (hk : ∀ I, enterL I k = some (kb I))
    (L : Nat → X → Option Y) (E : X → Env) (hs : X → List (Option Blk))
    (round : ∀ j x I, L j x = some y → (∀ i x', i < j → L i x' = some y → ∀ a w, cx.In G n K0 (E x') (hs x') a w → I a w) → WG P G n K0 Q cx (kb I) (E x) (hs x))
    {j x} (h : L j x = some y) : WG P G n K0 Q cx k (E x) (hs x) := by
  have main : ∀ c k', k = .code (.loop c) :: k' → WG P G n K0 Q cx k (E x) (hs x) := by
    intro c k' e
    subst e
    refine WG.loop L E hs (fun j x I h1 h2 => ?_) h
    have := round j x I h1 h2
    have e := hk I
    simp only [enterL, Option.some.injEq] at e
    rw [e]; exact this
  match k, hk, main with
  | .code (.loop c) :: k', _, main => exact main c k' rfl
  | [], hk, _ => exact absurd (hk fun _ _ => True) (by simp [enterL])
  | .fin _ :: _, hk, _ => exact absurd (hk fun _ _ => True) (by simp [enterL])
  | .again _ :: _, hk, _ => exact absurd (hk fun _ _ => True) (by simp [enterL])
  | .rnd _ _ :: _, hk, _ => exact absurd (hk fun _ _ => True) (by simp [enterL])
  | .code c :: k', hk, main =>
    cases c <;> first
      | exact main _ k' rfl
      | exact absurd (hk fun _ _ => True) (by simp [enterL])

theorem res_nil {P : Program} {fg : Func} (h : fg.results.toList = []) : ∀ tmps w, ∃ v, (results fg tmps).run P w = .ok v w := by
  intro tmps w
  rw [results_eq, Sem.run_bind, Array.mapM_eq_mapM_toList, Sem.run_map, h]
  exact ⟨_, rfl⟩

def rfAssign (k : List It) : Code :=
  match k with
  | .code (.rangeFunc _ _ a _) :: _ => a
  | _ => .skip
def rfBody (k : List It) : Code :=
  match k with
  | .code (.rangeFunc _ _ _ b) :: _ => b
  | _ => .skip

theorem Spec.ofM' {K : FuncId} {fn : Func} {c : Code} {args : List V} {rs : List ResultVar} {hs hs' v} (hf : P.funcs[K]? = some fn) (hb : fn.body = some c) (hn : fn.ntmps = n) (hrs : fn.results.toList = rs) (hlen : Nat.ble args.length n = true)
    (h : ∀ cx, cx.ro = none → WM P G n hs.length rs v hs' cx [.code c] (argEnv 0 args) hs) : Spec P G K args hs v hs' :=
  Spec.ofM0 hf hb hn hrs hlen fun ρ σ F => h ⟨ρ, σ, F, none, []⟩ rfl

/-- The function that is ranged over ends. -/
theorem WG.endF {X : Type} {r : RF} {base : Cx} {nI N : Nat} {Lend : X → Prop} {hsE : X → List (Option Blk)} (hm : P.follows .mixedOrders = true) {k E hs} (an : List (PAnn P G)) (m : Map) {C : List Prop} (hC : allP C) (x : X) (hx : Lend x)
    (h : lhsM (fullM P G nI N k E hs an m [] (hsE x)) = rhsM true [] C (fullM P G nI N k E hs an m [] (hsE x))) : WG P G nI N (r.QE base G nI N Lend hsE) (r.cxi base) k E hs :=
  fullM_ok hm h hC fun _ _ hi => ⟨⟨.inl rfl, x, hx, hi⟩, .inr rfl, x, hx, hi⟩
end
end Go.Proofs.YtiekchfipaiflaaGreatDoor
