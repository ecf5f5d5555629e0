/- Slices: literals, make, append, copy, clear; texts of bytes and of signs. -/
import Derived.Test.YtiekchfipaiflaaGreatDoorLh
namespace Go.Proofs.YtiekchfipaiflaaGreatDoor
open Go

/-- Elements behind each other as cells. -/
def chunk (flat : List V) (size : Nat) : Nat → List (List V)
  | 0 => []
  | n + 1 => flat.take size :: chunk (flat.drop size) size n
theorem chunk_length (size : Nat) : ∀ (n : Nat) (flat : List V), (chunk flat size n).length = n := by
  intro n; induction n with
  | zero => intro flat; rfl
  | succ n ih => intro flat; simp [chunk, ih]
theorem chunk_getD (size : Nat) : ∀ (n : Nat) (flat : List V) (k j : Nat), k < n → j < size → ((chunk flat size n).getD k []).getD j .u = flat.getD (k * size + j) .u := by
  intro n; induction n with
  | zero => intro flat k j hk; omega
  | succ n ih =>
    intro flat k j hk hj
    cases k with
    | zero => simp [chunk, List.getD_eq_getElem?_getD, List.getElem?_take, hj]
    | succ k =>
      simp only [chunk, List.getD_cons_succ]
      rw [ih _ _ _ (by omega) hj]
      simp only [List.getD_eq_getElem?_getD, List.getElem?_drop]
      rw [show size + (k * size + j) = (k + 1) * size + j by rw [Nat.add_mul]; omega]

def zeroRow (zeros : List V) (m : Nat) : List V := (List.range m).map fun i => zeros.getD (i % zeros.length) .u

def buildSliceO (P : Program) (t : TypeId) (n : Nat) (parts : List (Nat × V)) (id : Nat) (b : Blk) : Option Out :=
  match P.underlying t with
  | some (.slice e) => match P.info? e, zeroL P e with
    | some i, some z =>
      if i.size == b.size && z.length == i.size && Nat.ble 1 b.size && Nat.ble (n * i.size) 16777216 then
        match fillA (fun k => some (k * i.size, i.size)) (zeroRow z (n * i.size)) parts with
        | some flat => some ⟨[], (chunk flat i.size n).map fun vs => (b.enc (b.dec vs), vs), .sl id 0 n, [(id, some { b with l := (chunk flat i.size n).map b.dec })]⟩
        | none => none
      else none
    | _, _ => none
  | _ => none

theorem allS_mem : ∀ {l : List (List V × List V)}, allS l → ∀ p ∈ l, p.1 = p.2 := by
  intro l; induction l with
  | nil => intro _ p hp; cases hp
  | cons x r ih => intro h p hp; cases hp with
    | head => exact h.1
    | tail _ hp => exact ih h.2 p hp

/-- A row of zero values. -/
theorem zeroRow_ok {ρ σ} {z : Value} {zeros : List V} (hz : CellsR ρ σ zeros z.cells) (m : Nat) (hne : m ≠ 0 → zeros.length ≠ 0) :
    CellsR ρ σ (zeroRow zeros m) ((Array.range m).map (z.cells[· % z.cells.size]!)) := by
  refine ⟨by simp [zeroRow], fun i hi => ?_⟩
  simp only [Array.size_map, Array.size_range] at hi
  simp only [Array.getElem_map, Array.getElem_range]
  have h0 := hne (by omega)
  have hlt : i % z.cells.size < z.cells.size := Nat.mod_lt _ (by rw [← hz.1]; omega)
  rw [getElem!_pos z.cells _ hlt]
  have e : (zeroRow zeros m).getD i .u = zeros.getD (i % zeros.length) .u := by
    simp only [zeroRow, List.getD_eq_getElem?_getD, List.getElem?_map, List.getElem?_range hi, Option.map_some, Option.getD_some]
  rw [e, hz.1]
  exact hz.2 _ hlt

theorem zeroL_some {P : Program} {e zl} (h : zeroL P e = some zl) : ∃ i z, P.info? e = some i ∧ i.zero = some z ∧ zl = vcells (toV z) := by
  unfold zeroL at h
  split at h
  · rename_i i hi
    split at h
    · rename_i z hz; cases h; exact ⟨i, z, hi, hz, rfl⟩
    · cases h
  · cases h

theorem fillA_len (place : Nat → Option (Nat × Nat)) : ∀ (parts : List (Nat × V)) (l r : List V), fillA place l parts = some r → r.length = l.length := by
  intro parts; induction parts with
  | nil => intro l r h; cases h; rfl
  | cons p parts ih =>
    intro l r h
    obtain ⟨i, v⟩ := p
    simp only [fillA] at h
    split at h
    · cases h
    · split at h
      · rename_i hc
        simp only [Bool.and_eq_true, beq_iff_eq, Nat.ble_eq] at hc
        rw [ih _ _ h, splice_length _ _ _ hc.1.2]
      · cases h

/-- Cells that are elements behind each other make a new block. -/
theorem row_ok {ρ σ D H F w id n} {b : Blk} {es : List (List V)} {cs : Array Value} (hH : HInv ρ σ D H F w) (hid : σ id = none) (hpos : 0 < b.size) (hn : es.length = n)
    (hS : ∀ vs ∈ es, b.enc (b.dec vs) = vs) (hle : n * b.size ≤ cs.size)
    (hcell : ∀ k, k < n → ∀ j, j < b.size → ∃ x, cs[k * b.size + j]? = some x ∧ VR ρ σ ((es.getD k []).getD j .u) x) (e : TypeId) (fz : Nat × Nat)
    (hfz : fzOK fz cs.size) {w'} (hw : sameIO w w' ∧ ∀ r, r < w.heap.size → w'.heap[r]? = w.heap[r]?) (hw' : w'.heap[w.heap.size]? = some (.cells cs e fz)) {cap}
    (hcap : n ≤ cap ∧ cap * b.size ≤ cs.size) {C S} :
    Fin ρ σ D H F ⟨C, S, .sl id 0 n, [(id, some { b with l := es.map b.dec })]⟩ (.slice (some ⟨w.heap.size, 0, none⟩) n cap) w' := by
  obtain ⟨h1, h2⟩ := newRow_ok (b := { b with l := es.map b.dec }) (cs := cs) hH hid hpos (by simpa [hn] using hle) (by
    intro k hk j hj
    simp only [List.length_map, hn] at hk
    dsimp only at hj ⊢
    obtain ⟨x, hx, hv⟩ := hcell k hk j hj
    refine ⟨x, hx, ?_⟩
    have hk' : k < es.length := by omega
    have : (es.map b.dec).getD k b.d = b.dec es[k] := by
      simp [List.getD_eq_getElem?_getD, hk']
    rw [this, hS _ (List.getElem_mem hk')]
    have : es.getD k [] = es[k] := by simp [List.getD_eq_getElem?_getD, hk']
    rw [this] at hv; exact hv) e fz hfz hw hw'
  refine ⟨_, .sl (L := ⟨w.heap.size, cs.size, b.size⟩) (by simp [updS]) hcap.1 (fun _ => ⟨by simp, by simpa using hcap.2⟩), h1, h2.wider (fun j hj => by simpa using hj)⟩

theorem buildSliceO_ok {ρ σ D H F w P t n id b out} {parts : List (Nat × V)} {ps : Array (Nat × Value)} (h : buildSliceO P t n parts id b = some out) (hS : allS out.S)
    (hH : HInv ρ σ D H F w) (hid : σ id = none) (hn : parts.length = ps.size)
    (hp : ∀ i (h1 : i < parts.length) (h2 : i < ps.size), parts[i].1 = ps[i].1 ∧ VR ρ σ parts[i].2 ps[i].2) :
    ∃ z w', (Instr.buildSlice t n ps).run P w = .ok z w' ∧ Fin ρ σ D H F out z w' := by
  unfold buildSliceO at h
  split at h
  · rename_i e hu
    split at h
    · rename_i i zl hi hzl
      split at h
      · rename_i hc
        simp only [Bool.and_eq_true, beq_iff_eq, Nat.ble_eq] at hc
        obtain ⟨⟨⟨hc1, hc2⟩, hc3⟩, hc4⟩ := hc
        split at h
        · rename_i flat hfl
          cases h
          obtain ⟨i', z, hi', hz, rfl⟩ := zeroL_some hzl
          rw [hi] at hi'; cases hi'
          simp only [Instr.buildSlice, Sem.run_bind, run_underlying hu, Result.andThen_ok, run_sizeOf hi]
          rw [if_neg (by omega)]
          have hS' : ∀ vs ∈ chunk flat i.size n, b.enc (b.dec vs) = vs := fun vs hvs => allS_mem hS (b.enc (b.dec vs), vs) (List.mem_map.2 ⟨vs, hvs, rfl⟩)
          have main : ∀ (cs0 : Array Value), CellsR ρ σ (zeroRow (vcells (toV z)) (n * i.size)) cs0 →
              ∃ zz w', (do
                let some cells := Instr.fill (fun k => some (k * i.size, i.size)) cs0 ps.toList | stuck "buildSlice: a part of the wrong size"
                pure (.slice (some (← newRow e cells)) n n) : Sem Value).run P w = .ok zz w' ∧
                Fin ρ σ D H F ⟨[], (chunk flat i.size n).map fun vs => (b.enc (b.dec vs), vs), .sl id 0 n, [(id, some { b with l := (chunk flat i.size n).map b.dec })]⟩ zz w' := by
            intro cs0 h0
            obtain ⟨r, hr, hcr⟩ := fill_ok (ρ := ρ) (σ := σ) _ parts ps.toList _ flat cs0 hfl h0 (by simpa using hn) (fun i h1 h2 => by simpa using hp i h1 (by simpa using h2))
            have hfl' : flat.length = n * i.size := by rw [fillA_len _ _ _ _ hfl]; simp [zeroRow]
            simp only [hr, Sem.run_bind, newRow, run_newObj, Result.andThen_ok, Sem.run_pure]
            refine ⟨_, _, rfl, row_ok hH hid (by omega) (chunk_length _ _ _) hS' (by rw [← hcr.1, hfl', hc1]; exact Nat.le_refl _) ?_ e (0, 0) (.inl rfl) (push_old2 (n := w.drawn)) push_new ⟨Nat.le_refl _, by rw [← hcr.1, hfl', hc1]; exact Nat.le_refl _⟩⟩
            intro k hk j hj
            have hlt : k * b.size + j < r.size := by
              rw [← hcr.1, hfl', hc1]
              have : (k + 1) * b.size ≤ n * b.size := Nat.mul_le_mul_right _ hk
              rw [Nat.add_mul, Nat.one_mul] at this; omega
            refine ⟨r[k * b.size + j], Array.getElem?_eq_getElem hlt, ?_⟩
            rw [chunk_getD _ _ _ _ _ hk (by rw [hc1]; exact hj), hc1]
            exact hcr.2 _ hlt
          by_cases h0 : n * i.size = 0
          · simp only [h0, if_true, Sem.run_pure, Result.andThen_ok]
            exact main _ (by rw [h0]; exact ⟨by simp [zeroRow], fun i hi => by simp at hi⟩)
          · simp only [if_neg h0, Sem.run_bind, run_zeroValue hi hz, Result.andThen_ok, Sem.run_pure]
            exact main _ (zeroRow_ok (toV_cells z) _ (fun _ => by rw [hc2]; omega))
        · cases h
      · cases h
    · cases h
  · cases h

def makeSliceO (P : Program) (t : TypeId) (len cap : V) (id : Nat) (b : Blk) : Option Out :=
  match P.underlying t, len, cap with
  | some (.slice e), .i .i64 n, .i .i64 c => match P.info? e, zeroL P e with
    | some i, some z =>
      if i.size == b.size && z.length == i.size && Nat.ble 1 b.size then
        some ⟨[0 ≤ n, n ≤ c, (i.bytes : Int) * c ≤ 281474976710656, inR c], [(b.enc (b.dec z), z)], .sl id 0 n.toNat, [(id, some { b with l := List.replicate n.toNat (b.dec z) })]⟩
      else none
    | _, _ => none
  | _, _, _ => none

theorem makeSliceO_ok {ρ σ D H F w P t len cap id b out} {a c : Value} (h : makeSliceO P t len cap id b = some out) (hC : allP out.C) (hS : allS out.S)
    (hH : HInv ρ σ D H F w) (hid : σ id = none) (hl : VR ρ σ len a) (hc : VR ρ σ cap c) :
    ∃ z w', (Instr.makeSlice t a c).run P w = .ok z w' ∧ Fin ρ σ D H F out z w' := by
  unfold makeSliceO at h
  split at h
  · rename_i e n m hu
    split at h
    · rename_i i zl hi hzl
      split at h
      · rename_i hk
        cases h
        simp only [Bool.and_eq_true, beq_iff_eq, Nat.ble_eq] at hk
        obtain ⟨⟨hk1, hk2⟩, hk3⟩ := hk
        obtain ⟨i', z, hi', hz, rfl⟩ := zeroL_some hzl
        rw [hi] at hi'; cases hi'
        obtain ⟨h1, h2, h3, h4, _⟩ := hC
        have hSe := hS.1
        dsimp only at hSe
        cases hl; cases hc
        have w1 : IntKind.i64.wrap n = n := wrap_in (by unfold inR at h4 ⊢; omega)
        have w2 : IntKind.i64.wrap m = m := wrap_in h4
        simp only [Instr.makeSlice, Sem.run_bind, run_underlying hu, Result.andThen_ok, asInt, asIntOf, Sem.run_pure, run_typeInfo hi, w1, w2]
        rw [if_neg (by simp; omega)]
        simp only [Sem.run_bind, run_askRoom, Result.andThen_ok, run_sizeOf hi, Sem.run_pure]
        have fin : ∀ (cs : Array Value), cs = (Array.range (m.toNat * i.size)).map (z.cells[· % z.cells.size]!) → Fin ρ σ D H F ⟨[0 ≤ n, n ≤ m, (i.bytes : Int) * m ≤ 281474976710656, inR m], [(b.enc (b.dec (vcells (toV z))), vcells (toV z))], .sl id 0 n.toNat, [(id, some { b with l := List.replicate n.toNat (b.dec (vcells (toV z))) })]⟩
            (.slice (some ⟨w.heap.size, 0, none⟩) n.toNat m.toNat) { w with heap := w.heap.push (.cells cs e) } := by
          intro cs hcs
          have hsz : cs.size = m.toNat * b.size := by rw [hcs, ← hk1]; simp
          have hnm : n.toNat ≤ m.toNat := by omega
          have hmul : n.toNat * b.size ≤ m.toNat * b.size := Nat.mul_le_mul_right _ hnm
          have hrow := row_ok (es := List.replicate n.toNat (vcells (toV z))) (b := b) (cs := cs) (n := n.toNat) (cap := m.toNat) (C := [0 ≤ n, n ≤ m, (i.bytes : Int) * m ≤ 281474976710656, inR m]) (S := [(b.enc (b.dec (vcells (toV z))), vcells (toV z))]) hH hid (by omega) (by simp) (by
            intro vs hvs
            rw [(List.mem_replicate.1 hvs).2]; exact hSe) (by omega) (by
            intro k hk j hj
            have hlt : k * b.size + j < cs.size := by
              have : (k + 1) * b.size ≤ n.toNat * b.size := Nat.mul_le_mul_right _ hk
              rw [Nat.add_mul, Nat.one_mul] at this; omega
            refine ⟨cs[k * b.size + j], Array.getElem?_eq_getElem hlt, ?_⟩
            have e1 : (List.replicate n.toNat (vcells (toV z))).getD k [] = vcells (toV z) := by
              simp [List.getD_eq_getElem?_getD, List.getElem?_replicate, hk]
            rw [e1]
            have hz2 := toV_cells z (ρ := ρ) (σ := σ)
            have hzl : z.cells.size = b.size := by rw [← hz2.1, hk2, hk1]
            have : cs[k * b.size + j] = z.cells[j]'(by omega) := by
              subst hcs
              have hmod : (k * b.size + j) % z.cells.size = j := by rw [hzl, Nat.mul_comm, Nat.mul_add_mod, Nat.mod_eq_of_lt hj]
              simp only [Array.getElem_map, Array.getElem_range, hmod]
              exact getElem!_pos z.cells j (by omega)
            rw [this]; exact hz2.2 j (by omega)) e (0, 0) (.inl rfl) (push_old2 (n := w.drawn)) push_new ⟨hnm, by omega⟩
          simpa using hrow
        by_cases h0 : m.toNat * i.size = 0
        · simp only [h0, if_true, Sem.run_pure, Result.andThen_ok, newRow, Sem.run_bind, run_newObj]
          exact ⟨_, _, rfl, fin _ (by rw [h0]; simp)⟩
        · simp only [if_neg h0, Sem.run_bind, run_zeroValue hi hz, Result.andThen_ok, Sem.run_pure, newRow, run_newObj]
          exact ⟨_, _, rfl, fin _ rfl⟩
      · cases h
    · cases h
  · cases h

end Go.Proofs.YtiekchfipaiflaaGreatDoor
