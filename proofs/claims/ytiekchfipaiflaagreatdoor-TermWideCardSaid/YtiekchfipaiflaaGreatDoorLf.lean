/- Constants, structs that are built, and all operations that touch no memory in one function. -/
import Derived.Test.YtiekchfipaiflaaGreatDoorLe
namespace Go.Proofs.YtiekchfipaiflaaGreatDoor
open Go

def okB (k : IntKind) (n : Int) : Bool := isI64 k || (decide (k.min ≤ n) && decide (n ≤ k.max))
theorem okB_ok {k n} (h : okB k n = true) : okInt k n := by
  unfold okB at h
  simp only [Bool.or_eq_true, Bool.and_eq_true, decide_eq_true_eq] at h
  rcases h with h | h
  · exact .inl (by cases k <;> simp [isI64] at h ⊢)
  · exact .inr h

def toVs : Value → V
  | .bool b => .b b
  | .int k n => if okB k n then .i k n else .u
  | .string s => .s (strL s)
  | .pointer none => .nilp
  | .slice none 0 0 => .nils
  | .nilFunc => .nilfn
  | .nilIface => .niliface
  | .float k n => .fl k n
  | _ => .u
theorem toVs_ok {ρ σ} (c : Value) : VR ρ σ (toVs c) c := by
  unfold toVs
  split
  · exact .b
  · split
    · rename_i h; exact .i (okB_ok h)
    · exact .u
  · exact .s rfl
  · exact .nilp
  · exact .nils
  · exact .nilfn
  · exact .niliface
  · exact .fl
  · exact .u
def toV : Value → V
  | .agg cs => .agg (cs.toList.map toVs)
  | v => toVs v
theorem toV_ok {ρ σ} (c : Value) : VR ρ σ (toV c) c := by
  unfold toV
  split
  · refine .agg (by simp) fun i hi => ?_
    simp only [List.getD_eq_getElem?_getD, List.getElem?_map, Array.getElem?_toList, Array.getElem?_eq_getElem hi, Option.map_some, Option.getD_some]
    exact toVs_ok _
  · exact toVs_ok _

theorem run_mapM {α β : Type} {P : Program} {w : World} (f : α → Sem β) (g : α → β) : ∀ (l : List α), (∀ x ∈ l, (f x).run P w = .ok (g x) w) → (l.mapM f).run P w = .ok (l.map g) w := by
  intro l
  induction l with
  | nil => intro _; rfl
  | cons x l ih =>
    intro h
    simp only [List.mapM_cons, Sem.run_bind, h x (.head _), Result.andThen_ok, ih (fun y hy => h y (.tail _ hy)), Sem.run_pure, List.map_cons]

def fillA (place : Nat → Option (Nat × Nat)) (cells : List V) : List (Nat × V) → Option (List V)
  | [] => some cells
  | (i, v) :: rest =>
    match place i with
    | none => none
    | some (off, size) =>
      if (vcells v).length == size && Nat.ble (off + (vcells v).length) cells.length && notTup v then fillA place (splice cells off (vcells v)) rest else none

def CellsR (ρ : Mem) (σ : Sig) (l : List V) (cs : Array Value) : Prop := l.length = cs.size ∧ ∀ i (hi : i < cs.size), VR ρ σ (l.getD i .u) cs[i]

theorem foldl_set (vs : List Value) : ∀ (n off : Nat) (cells : Array Value),
    ((vs.zipIdx n).foldl (fun (cs : Array Value) (x : Value × Nat) => cs.setIfInBounds (off + x.2) x.1) cells).size = cells.size ∧
    ∀ k, k < cells.size → ((vs.zipIdx n).foldl (fun (cs : Array Value) (x : Value × Nat) => cs.setIfInBounds (off + x.2) x.1) cells)[k]? =
      if off + n ≤ k ∧ k < off + n + vs.length then vs[k - (off + n)]? else cells[k]? := by
  induction vs with
  | nil => intro n off cells; refine ⟨rfl, fun k hk => by rw [if_neg (by simp)]; rfl⟩
  | cons v vs ih =>
    intro n off cells
    simp only [List.zipIdx_cons, List.foldl_cons, List.length_cons]
    obtain ⟨h1, h2⟩ := ih (n + 1) off (cells.setIfInBounds (off + n) v)
    refine ⟨by simpa using h1, fun k hk => ?_⟩
    rw [h2 k (by simpa using hk)]
    by_cases e : k = off + n
    · subst e
      rw [if_neg (by omega), if_pos (by omega)]
      simp [hk]
    · by_cases hin : off + (n + 1) ≤ k ∧ k < off + (n + 1) + vs.length
      · rw [if_pos hin, if_pos (by omega), show k - (off + n) = (k - (off + (n + 1))) + 1 by omega]; rfl
      · rw [if_neg hin, if_neg (by omega)]
        exact Array.getElem?_setIfInBounds_ne (fun e' => e e'.symm)

theorem splice_length (l : List V) (off : Nat) (vs : List V) (h : off + vs.length ≤ l.length) : (splice l off vs).length = l.length := by
  unfold splice; simp; omega

theorem fill_ok {ρ σ} (place : Nat → Option (Nat × Nat)) : ∀ (parts : List (Nat × V)) (ps : List (Nat × Value)) (l r : List V) (cs : Array Value),
    fillA place l parts = some r → CellsR ρ σ l cs → parts.length = ps.length → (∀ i (h1 : i < parts.length) (h2 : i < ps.length), parts[i].1 = ps[i].1 ∧ VR ρ σ parts[i].2 ps[i].2) →
    ∃ z, Instr.fill place cs ps = some z ∧ CellsR ρ σ r z := by
  intro parts
  induction parts with
  | nil =>
    intro ps l r cs h hl hn _
    cases ps with
    | nil => simp only [fillA, Option.some.injEq] at h; subst h; exact ⟨cs, rfl, hl⟩
    | cons => simp at hn
  | cons p parts ih =>
    intro ps l r cs h hl hn hp
    cases ps with
    | nil => simp at hn
    | cons q ps =>
      obtain ⟨i, v⟩ := p
      obtain ⟨j, x⟩ := q
      have h0 := hp 0 (by simp) (by simp)
      simp only [List.getElem_cons_zero] at h0
      obtain ⟨rfl, hv⟩ := h0
      simp only [fillA] at h
      simp only [Instr.fill]
      cases hpl : place i with
      | none => rw [hpl] at h; cases h
      | some os =>
        obtain ⟨off, size⟩ := os
        rw [hpl] at h
        simp only [] at h ⊢
        split at h
        · rename_i hc
          simp only [Bool.and_eq_true, beq_iff_eq, Nat.ble_eq] at hc
          obtain ⟨⟨hc1, hc2⟩, hc3⟩ := hc
          obtain ⟨hv1, hv2⟩ := vcells_ok hv hc3
          have hsz : (x.cells.size ≠ size || off + x.cells.size > cs.size) = false := by
            rw [← hv1, hc1]; simp; rw [← hl.1]; omega
          simp only [hsz, Bool.false_eq_true, if_false]
          obtain ⟨f1, f2⟩ := foldl_set x.cells.toList 0 off cs
          have eqf : x.cells.zipIdx.foldl (fun cs (p : Value × Nat) => cs.setIfInBounds (off + p.2) p.1) cs =
              (x.cells.toList.zipIdx 0).foldl (fun (cs : Array Value) (x : Value × Nat) => cs.setIfInBounds (off + x.2) x.1) cs := by
            rw [← Array.foldl_toList]; simp
          refine ih ps _ r _ h ?_ (by simpa using hn) (fun i h1 h2 => hp (i + 1) (by simpa using h1) (by simpa using h2))
          rw [eqf]
          refine ⟨by rw [f1, splice_length _ _ _ hc2, hl.1], fun k hk => ?_⟩
          have hk' : k < cs.size := by rw [f1] at hk; exact hk
          have e := f2 k hk'
          rw [Array.getElem?_eq_getElem hk] at e
          rw [splice_getD _ _ _ hc2]
          have hxs : x.cells.toList.length = (vcells v).length := by simp [hv1]
          by_cases hin : off ≤ k ∧ k < off + (vcells v).length
          · rw [if_pos hin]
            rw [if_pos (by rw [hxs]; omega)] at e
            have hlt : k - off < x.cells.size := by rw [← hv1]; omega
            simp only [Nat.add_zero, Array.getElem?_toList, Array.getElem?_eq_getElem hlt, Option.some.injEq] at e
            rw [e]; exact hv2 _ hlt
          · rw [if_neg hin]
            rw [if_neg (by rw [hxs]; omega), Array.getElem?_eq_getElem hk'] at e
            simp only [Option.some.injEq] at e
            rw [e]; exact hl.2 k hk'
        · cases h

def placeS (P : Program) (fs : List Field) (i : Nat) : Option (Nat × Nat) :=
  match fs[i]? with
  | some f => match P.info? f.type with
    | some x => some (f.offset, x.size)
    | none => none
  | none => none

def allInfo (P : Program) : List Field → Bool
  | [] => true
  | f :: r => (P.info? f.type).isSome && allInfo P r

def zeroL (P : Program) (t : TypeId) : Option (List V) :=
  match P.info? t with
  | some i => match i.zero with
    | some z => some (vcells (toV z))
    | none => none
  | none => none

theorem toV_cells (z : Value) {ρ σ} : CellsR ρ σ (vcells (toV z)) z.cells := by
  unfold toV
  split
  · refine ⟨by simp [vcells, Value.cells], fun i hi => ?_⟩
    simp only [vcells, Value.cells] at hi ⊢
    simp only [List.getD_eq_getElem?_getD, List.getElem?_map, Array.getElem?_toList, Array.getElem?_eq_getElem hi, Option.map_some, Option.getD_some]
    exact toVs_ok _
  · rename_i h
    have hv : vcells (toVs z) = [toVs z] := by
      unfold toVs; repeat' split
      all_goals rfl
    have hc : z.cells = #[z] := by
      cases z <;> first | rfl | exact absurd rfl (h _)
    rw [hv, hc]
    refine ⟨rfl, fun i hi => ?_⟩
    have : i = 0 := by simpa using hi
    subst this
    exact toVs_ok _

def buildA (P : Program) (t : TypeId) (parts : List (Nat × V)) : Option V :=
  match zeroL P t with
  | some z => match P.underlying t with
    | some (.struct fs) => if allInfo P fs.toList then (match fillA (placeS P fs.toList) z parts with | some l => some (.agg l) | none => none) else none
    | some (.array _ e) => match P.info? e with
      | some i => match fillA (fun k => some (k * i.size, i.size)) z parts with | some l => some (.agg l) | none => none
      | none => none
    | _ => none
  | none => none

theorem allInfo_mem {P : Program} : ∀ {fs : List Field}, allInfo P fs = true → ∀ f ∈ fs, ∃ i, P.info? f.type = some i := by
  intro fs
  induction fs with
  | nil => intro _ f hf; cases hf
  | cons x r ih =>
    intro h f hf
    simp only [allInfo, Bool.and_eq_true] at h
    cases hf with
    | head => exact Option.isSome_iff_exists.1 h.1
    | tail _ hf => exact ih h.2 f hf

theorem run_zeroValue {P : Program} {t i z} (h : P.info? t = some i) (hz : i.zero = some z) (w : World) : (zeroValue t).run P w = .ok z w := by
  simp [zeroValue, run_typeInfo h, hz]

theorem buildA_ok {ρ σ P t v} {parts : List (Nat × V)} {ps : Array (Nat × Value)} (h : buildA P t parts = some v) (hn : parts.length = ps.size)
    (hp : ∀ i (h1 : i < parts.length) (h2 : i < ps.size), parts[i].1 = ps[i].1 ∧ VR ρ σ parts[i].2 ps[i].2) (w : World) :
    ∃ z, (Instr.build t ps).run P w = .ok z w ∧ VR ρ σ v z := by
  unfold buildA at h
  split at h
  · rename_i zl hzl
    unfold zeroL at hzl
    split at hzl
    · rename_i i hi
      split at hzl
      · rename_i z hz
        cases hzl
        simp only [Instr.build, Sem.run_bind, run_zeroValue hi hz, Result.andThen_ok]
        split at h
        · rename_i fs hu
          simp only [run_underlying hu, Result.andThen_ok]
          split at h
          · rename_i hall
            split at h
            · rename_i l hl
              cases h
              let g : Field → Nat × Nat := fun f => (f.offset, ((P.info? f.type).map (·.size)).getD 0)
              have hm : (fs.mapM (fun (f : Field) => do pure (f.offset, ← sizeOf f.type)) : Sem (Array (Nat × Nat))).run P w = .ok (fs.map g) w := by
                rw [Array.mapM_eq_mapM_toList]
                simp only [Sem.run_map]
                rw [run_mapM _ g fs.toList ?_]
                · simp only [Result.andThen_ok]; congr 1; rw [← Array.toList_map]
                · intro f hf
                  obtain ⟨x, hx⟩ := allInfo_mem hall f hf
                  simp [run_sizeOf hx, g, hx]
              rw [Sem.run_bind, hm]
              simp only [Result.andThen_ok]
              have hpl : (fun i => (fs.map g)[i]?) = placeS P fs.toList := by
                funext i
                simp only [placeS, Array.getElem?_map, Array.getElem?_toList]
                cases hfi : fs[i]? with
                | none => rfl
                | some f =>
                  obtain ⟨x, hx⟩ := allInfo_mem hall f (by
                    have := (Array.getElem?_eq_some_iff.1 hfi)
                    obtain ⟨h1, h2⟩ := this
                    rw [← h2]; exact Array.getElem_mem_toList h1)
                  simp [g, hx]
              obtain ⟨r, hr, hc⟩ := fill_ok (ρ := ρ) (σ := σ) _ parts ps.toList _ l z.cells hl (toV_cells z) (by simpa using hn) (fun i h1 h2 => by simpa using hp i h1 (by simpa using h2))
              rw [hpl, hr]
              exact ⟨_, rfl, .agg hc.1 hc.2⟩
            · cases h
          · cases h
        · rename_i n e hu
          simp only [run_underlying hu, Result.andThen_ok]
          split at h
          · rename_i ie hie
            split at h
            · rename_i l hl
              cases h
              obtain ⟨r, hr, hc⟩ := fill_ok (ρ := ρ) (σ := σ) _ parts ps.toList _ l z.cells hl (toV_cells z) (by simpa using hn) (fun i h1 h2 => by simpa using hp i h1 (by simpa using h2))
              simp only [Sem.run_bind, run_sizeOf hie, Result.andThen_ok, hr]
              exact ⟨_, rfl, .agg hc.1 hc.2⟩
            · cases h
          · cases h
        · cases h
      · cases hzl
    · cases hzl
  · cases h

end Go.Proofs.YtiekchfipaiflaaGreatDoor
