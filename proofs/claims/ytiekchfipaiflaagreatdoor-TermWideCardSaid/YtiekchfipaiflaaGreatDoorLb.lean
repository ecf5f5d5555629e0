/- Runs of the model's loads, stores and allocations at blocks of cells, and what they do to a world that bears an abstract memory. -/
import Derived.Test.YtiekchfipaiflaaGreatDoorLa
namespace Go.Proofs.YtiekchfipaiflaaGreatDoor
open Go

theorem run_typeInfo {P : Program} {t i} (h : P.info? t = some i) (w : World) : (typeInfo t).run P w = .ok i w := by
  simp [typeInfo, h]
theorem run_underlying {P : Program} {t d} (h : P.underlying t = some d) (w : World) : (underlying t).run P w = .ok d w := by
  simp [underlying, h]
theorem run_sizeOf {P : Program} {t i} (h : P.info? t = some i) (w : World) : (sizeOf t).run P w = .ok i.size w := by
  simp [sizeOf, run_typeInfo h]

def isAggD : TypeDesc → Bool
  | .struct _ | .array _ _ => true
  | _ => false
theorem run_isAgg {P : Program} {t d} (h : P.underlying t = some d) (w : World) : (isAgg t).run P w = .ok (isAggD d) w := by
  simp only [isAgg, Sem.run_bind, run_underlying h, Result.andThen_ok]
  cases d <;> rfl

theorem cell_at {w : World} {r c t fz} (h : w.heap[r]? = some (.cells c t fz)) (off : Nat) : w.cell? ⟨r, off, none⟩ = c[off]? := by
  simp [World.cell?, h]
theorem add_at (r off n : Nat) : (⟨r, off, none⟩ : Addr).add n = ⟨r, off + n, none⟩ := by
  unfold Addr.add; split
  · subst_vars; rfl
  · rfl

theorem run_load_at {P : Program} {w : World} {r c t fz} (h : w.heap[r]? = some (.cells c t fz)) {off v} (hv : c[off]? = some v) :
    (load ⟨r, off, none⟩).run P w = .ok v w := by
  rw [run_load, cell_at h, hv]

theorem run_loadCellsFrom {P : Program} {w : World} {r c t fz off} (h : w.heap[r]? = some (.cells c t fz)) :
    ∀ (n i : Nat) (acc : Array Value), off + i + n ≤ c.size → (loadCellsFrom ⟨r, off, none⟩ i n acc).run P w = .ok (acc ++ c.extract (off + i) (off + i + n)) w := by
  intro n
  induction n with
  | zero => intro i acc _; simp [loadCellsFrom]; omega
  | succ n ih =>
    intro i acc hn
    have hv : c[off + i]? = some c[off + i] := Array.getElem?_eq_getElem (by omega)
    simp only [loadCellsFrom, Sem.run_bind, add_at]
    rw [run_load_at h hv]
    simp only [Result.andThen_ok]
    rw [ih (i + 1) _ (by omega)]
    congr 1
    apply Array.ext'
    simp only [Array.toList_append, Array.toList_push, Array.toList_extract, List.extract_eq_take_drop, List.append_assoc, List.singleton_append]
    congr 1
    rw [show off + (i + 1) + n - (off + (i + 1)) = n by omega, show off + i + (n + 1) - (off + i) = n + 1 by omega, show off + (i + 1) = off + i + 1 by omega]
    rw [show List.drop (off + i) c.toList = c[off + i] :: List.drop (off + i + 1) c.toList from by
      rw [List.drop_eq_getElem_cons (by simpa using by omega)]; simp]
    rfl

theorem run_loadCells {P : Program} {w : World} {r c t fz off} (h : w.heap[r]? = some (.cells c t fz)) {n} (hn : off + n ≤ c.size) :
    (loadCells ⟨r, off, none⟩ n).run P w = .ok (c.extract off (off + n)) w := by
  unfold loadCells
  rw [run_loadCellsFrom h n 0 #[] (by omega)]
  simp

theorem setCell_heap {w : World} {r c t fz} (h : w.heap[r]? = some (.cells c t fz)) (off : Nat) (v : Value) :
    (∀ r', r' ≠ r → (w.setCell ⟨r, off, none⟩ v).heap[r']? = w.heap[r']?) ∧
    (w.setCell ⟨r, off, none⟩ v).heap[r]? = some (.cells (c.setIfInBounds off v) t fz) ∧ (w.setCell ⟨r, off, none⟩ v).heap.size = w.heap.size := by
  refine ⟨fun r' hr' => ?_, ?_, ?_⟩
  · simp only [World.setCell, Array.getElem?_modify]
    rw [if_neg (fun e => hr' e.symm)]
  · simp only [World.setCell, Array.getElem?_modify, if_true, h, Option.map_some]
    simp
  · simp [World.setCell]

theorem run_storeCells {P : Program} {r off : Nat} {t fz} : ∀ (vs : List Value) (i : Nat) (w : World) (c : Array Value),
    w.heap[r]? = some (.cells c t fz) → (∀ k, k < c.size → ¬ (fz.1 ≤ k ∧ k < fz.2)) → off + i + vs.length ≤ c.size → (∀ v ∈ vs, v.oneCell' = true) →
    ∃ w' c', (storeCells ⟨r, off, none⟩ vs i).run P w = .ok () w' ∧ (sameIO w w' ∧ ∀ r', r' ≠ r → w'.heap[r']? = w.heap[r']?) ∧
      w'.heap[r]? = some (.cells c' t fz) ∧ w'.heap.size = w.heap.size ∧ c'.size = c.size ∧
      ∀ k, c'[k]? = if off + i ≤ k ∧ k < off + i + vs.length then vs[k - (off + i)]? else c[k]? := by
  intro vs
  induction vs with
  | nil =>
    intro i w c h _ _ _
    exact ⟨w, c, rfl, ⟨sameIO.refl w, fun _ _ => rfl⟩, h, rfl, rfl, fun k => by rw [if_neg (by simp)]⟩
  | cons v vs ih =>
    intro i w c h hf hn ho
    simp only [List.length_cons] at hn
    obtain ⟨h1, h2, h3⟩ := setCell_heap h (off + i) v
    have hcell : w.cell? ⟨r, off + i, none⟩ = some c[off + i] := by rw [cell_at h]; exact Array.getElem?_eq_getElem (by omega)
    have hfz : w.frozen? ⟨r, off + i, none⟩ = false := by
      obtain ⟨lo, hi⟩ := fz
      have := hf (off + i) (by omega)
      simp only [World.frozen?, h]
      simp only [Bool.and_eq_false_iff, decide_eq_false_iff_not]
      simp only [not_and] at this
      by_cases hlo : lo ≤ off + i
      · exact .inr (this hlo)
      · exact .inl hlo
    obtain ⟨w', c', hr, ho', hc', hsz, hcs, hk⟩ := ih (i + 1) (w.setCell ⟨r, off + i, none⟩ v) (c.setIfInBounds (off + i) v) h2 (by simpa using hf) (by simpa using by omega) (fun x hx => ho x (.tail _ hx))
    refine ⟨w', c', ?_, ⟨ho'.1, fun r' hr' => (ho'.2 r' hr').trans (h1 r' hr')⟩, hc', hsz.trans h3, by simpa using hcs, fun k => ?_⟩
    · simp only [storeCells, Sem.run_bind, add_at]
      rw [run_store P w _ v _ (ho v (.head _)), hcell]
      simp only [hfz, Bool.false_eq_true, if_false, Result.andThen_ok]
      exact hr
    · rw [hk k]
      simp only [List.length_cons]
      by_cases e : k = off + i
      · subst e
        rw [if_neg (by omega), if_pos (by omega)]
        simp [show off + i < c.size by omega]
      · by_cases hin : off + (i + 1) ≤ k ∧ k < off + (i + 1) + vs.length
        · rw [if_pos hin, if_pos (by omega)]
          rw [show k - (off + i) = (k - (off + (i + 1))) + 1 by omega]
          rfl
        · rw [if_neg hin, if_neg (by omega)]
          exact Array.getElem?_setIfInBounds_ne (fun e' => e e'.symm)

theorem run_storeVar {P : Program} {r off : Nat} {t' ty fz} {w : World} {c : Array Value} {v : Value} {i}
    (hi : P.info? ty = some i) (hs : v.cells.size = i.size)
    (h : w.heap[r]? = some (.cells c t' fz)) (hf : ∀ k, k < c.size → ¬ (fz.1 ≤ k ∧ k < fz.2)) (hn : off + v.cells.size ≤ c.size) (ho : ∀ x ∈ v.cells.toList, x.oneCell' = true) :
    ∃ w' c', (storeVar ty ⟨r, off, none⟩ v).run P w = .ok () w' ∧ (sameIO w w' ∧ ∀ r', r' ≠ r → w'.heap[r']? = w.heap[r']?) ∧
      w'.heap[r]? = some (.cells c' t' fz) ∧ w'.heap.size = w.heap.size ∧ c'.size = c.size ∧
      ∀ k, c'[k]? = if off ≤ k ∧ k < off + v.cells.size then v.cells[k - off]? else c[k]? := by
  obtain ⟨w', c', h1, h2, h3, h4, h5, h6⟩ := run_storeCells (P := P) (off := off) v.cells.toList 0 w c h hf (by simpa using hn) ho
  refine ⟨w', c', ?_, h2, h3, h4, h5, fun k => ?_⟩
  · unfold storeVar
    simp only [Sem.run_bind, run_sizeOf hi, Result.andThen_ok, hs, ne_eq, not_true_eq_false, if_false]
    exact h1
  · rw [h6 k]
    simp only [Nat.add_zero, Array.length_toList, Array.getElem?_toList]

/-- Scalars: what one cell may bear. -/
def scal : V → Bool
  | .u | .agg _ | .tup _ | .val _ => false
  | _ => true
theorem scal_cell {ρ σ v x} (h : VR ρ σ v x) (hs : scal v = true) : x.oneCell' = true := by
  cases h <;> first | rfl | simp [scal] at hs

def vcells : V → List V
  | .agg l => l
  | v => [v]
def notTup : V → Bool
  | .tup _ | .u | .val _ => false
  | _ => true
theorem vcells_ok {ρ σ v x} (h : VR ρ σ v x) (hs : notTup v = true) : (vcells v).length = x.cells.size ∧ ∀ i (hi : i < x.cells.size), VR ρ σ ((vcells v).getD i .u) x.cells[i] := by
  cases h with
  | agg hn h => exact ⟨hn, h⟩
  | u => simp [notTup] at hs
  | tup => simp [notTup] at hs
  | val => simp [notTup] at hs
  | _ => 
    refine ⟨rfl, fun i hi => ?_⟩
    simp only [Value.cells, List.size_toArray, List.length_cons, List.length_nil] at hi
    obtain rfl : i = 0 := by omega
    simp only [Value.cells, vcells, List.getD_cons_zero, List.getElem_toArray, List.getElem_cons_zero]
    constructor <;> assumption

def splice (l : List V) (off : Nat) (vs : List V) : List V := l.take off ++ (vs ++ l.drop (off + vs.length))
theorem splice_getD (l : List V) (off : Nat) (vs : List V) (h : off + vs.length ≤ l.length) (j : Nat) :
    (splice l off vs).getD j .u = if off ≤ j ∧ j < off + vs.length then vs.getD (j - off) .u else l.getD j .u := by
  unfold splice
  simp only [List.getD_eq_getElem?_getD]
  congr 1
  rw [List.getElem?_append]
  simp only [List.length_take, Nat.min_eq_left (show off ≤ l.length by omega)]
  by_cases h1 : j < off
  · rw [if_pos h1, if_neg (by omega), List.getElem?_take, if_pos h1]
  · rw [if_neg h1, List.getElem?_append]
    by_cases h2 : j - off < vs.length
    · rw [if_pos h2, if_pos (by omega)]
    · rw [if_neg h2, if_neg (by omega), List.getElem?_drop]
      congr 1
      rw [show off + vs.length + (j - off - vs.length) = j by omega]

/-- Reading at a place of cells. -/
def loadA (P : Program) (t : TypeId) (x : List V) (sub size : Nat) : Option V :=
  match P.info? t, P.underlying t with
  | some i, some d =>
    if isAggD d then (if ((x.drop sub).take i.size).length == i.size && Nat.ble (sub + i.size) size then some (.agg ((x.drop sub).take i.size)) else none)
    else (if Nat.ble (sub + 1) size then some (x.getD sub .u) else none)
  | _, _ => none

theorem loadA_ok {P : Program} {ρ σ t x sub size v} (h : loadA P t x sub size = some v) {w : World} {r c ty fz base}
    (hw : w.heap[r]? = some (.cells c ty fz)) (hx : ∀ j, j < size → ∃ y, c[base + j]? = some y ∧ VR ρ σ (x.getD j .u) y) :
    ∃ y, (Instr.loadAt t (.pointer (some ⟨r, base + sub, none⟩))).run P w = .ok y w ∧ VR ρ σ v y := by
  unfold loadA at h
  split at h
  · rename_i i d hi hd
    simp only [Instr.loadAt, Instr.sureAddr, Sem.run_bind, Sem.run_pure, Result.andThen_ok, loadVar, run_isAgg hd]
    split at h
    · rename_i hag
      split at h
      · rename_i hc
        cases h
        simp only [Bool.and_eq_true, beq_iff_eq, Nat.ble_eq] at hc
        have hlen : ∀ j, j < i.size → base + sub + j < c.size := by
          intro j hj
          obtain ⟨y, hy, _⟩ := hx (sub + j) (by omega)
          rw [← Nat.add_assoc] at hy
          exact (Array.getElem?_eq_some_iff.1 hy).1
        have hsz : base + sub + i.size ≤ c.size ∨ i.size = 0 := by
          by_cases h0 : i.size = 0
          · exact .inr h0
          · have := hlen (i.size - 1) (by omega); exact .inl (by omega)
        simp only [hag, if_true, Sem.run_bind, run_sizeOf hi, Result.andThen_ok]
        rcases hsz with hsz | h0
        · rw [run_loadCells hw hsz]
          refine ⟨_, rfl, .agg (by rw [hc.1]; simp; omega) fun k hk => ?_⟩
          have hk' : k < i.size := by simp at hk; omega
          obtain ⟨y, hy, hv⟩ := hx (sub + k) (by omega)
          have : (c.extract (base + sub) (base + sub + i.size))[k] = y := by
            simp only [Array.getElem_extract]
            rw [← Nat.add_assoc] at hy
            exact (Array.getElem?_eq_some_iff.1 hy).2
          rw [this]
          have e : ((x.drop sub).take i.size).getD k .u = x.getD (sub + k) .u := by
            simp only [List.getD_eq_getElem?_getD, List.getElem?_take, List.getElem?_drop, if_pos hk']
          rw [e]; exact hv
        · rw [h0]
          simp only [loadCells, loadCellsFrom, Sem.run_pure, Result.andThen_ok]
          refine ⟨_, rfl, .agg (by simp) fun k hk => by simp at hk⟩
      · cases h
    · rename_i hag
      split at h
      · rename_i hc
        cases h
        simp only [Nat.ble_eq] at hc
        obtain ⟨y, hy, hv⟩ := hx sub (by omega)
        simp only [hag]
        refine ⟨y, ?_, hv⟩
        simp only [Bool.false_eq_true, if_false]
        exact run_load_at hw hy
      · cases h
  · cases h

end Go.Proofs.YtiekchfipaiflaaGreatDoor
