/- Reads, stores, cuts of slices, new blocks. -/
import Derived.Test.YtiekchfipaiflaaGreatDoorLg
namespace Go.Proofs.YtiekchfipaiflaaGreatDoor
open Go

def applyW (wr : List (Nat × Option Blk)) (H : Heap) : Heap := wr.foldl (fun H p => upd H p.1 p.2) H
def allS : List (List V × List V) → Prop
  | [] => True
  | p :: r => p.1 = p.2 ∧ allS r

/-- The outcome is borne by a world. -/
def Fin (ρ : Mem) (σ : Sig) (D : Nat → Prop) (H : Heap) (F : Fr) (out : Out) (val : Value) (w' : World) : Prop :=
  ∃ σ', VR ρ σ' out.v val ∧ leS σ σ' ∧ HInv ρ σ' (fun j => D j ∨ j ∈ out.wr.map (·.1)) (applyW out.wr H) F w'

theorem Fin.pure {ρ σ D H F w val C S v} (hH : HInv ρ σ D H F w) (hv : VR ρ σ v val) : Fin ρ σ D H F ⟨C, S, v, []⟩ val w :=
  ⟨σ, hv, leS.refl _, hH.wider (fun _ h => .inl h)⟩

/-! A cut of a slice. -/

def cutB (n : Nat) (lo hi : Option V) : Option (List Prop × Nat × Nat) :=
  match lo, hi with
  | none, none => some ([], 0, n)
  | some (.i _ a), none => some ([0 ≤ a, a ≤ (n : Int)], a.toNat, n)
  | none, some (.i _ b) => some ([0 ≤ b, b ≤ (n : Int)], 0, b.toNat)
  | some (.i _ a), some (.i _ b) => some ([0 ≤ a, a ≤ b, b ≤ (n : Int)], a.toNat, b.toNat)
  | _, _ => none

theorem cutB_ok {ρ σ n cap lo hi} {a b : Option Value} {C x y} (h : cutB n lo hi = some (C, x, y)) (hC : allP C) (hn : n ≤ cap) (P : Program) (w : World) (isS : Bool)
    (hlo : ∀ x, lo = some x → ∃ c, a = some c ∧ VR ρ σ x c) (hln : lo = none → a = none)
    (hhi : ∀ x, hi = some x → ∃ c, b = some c ∧ VR ρ σ x c) (hhn : hi = none → b = none) :
    (Instr.sliceBounds isS n cap a b none).run P w = .ok (x, y, cap) w ∧ x ≤ y ∧ y ≤ n := by
  unfold cutB at h
  simp only [Instr.sliceBounds, Sem.run_bind, Sem.run_pure, Result.andThen_ok]
  split at h
  · cases h
    rw [hln rfl, hhn rfl]
    exact ⟨rfl, by omega, by omega⟩
  · cases h
    obtain ⟨c, rfl, hc⟩ := hlo _ rfl
    rw [hhn rfl]
    simp only [Sem.run_pure, Result.andThen_ok, Sem.run_bind]
    rw [bound_ok hc hC.1 hC.2.1]
    exact ⟨rfl, by have := hC.2.1; omega, by omega⟩
  · cases h
    obtain ⟨c, rfl, hc⟩ := hhi _ rfl
    rw [hln rfl]
    simp only [Sem.run_pure, Result.andThen_ok, Sem.run_bind]
    rw [bound_ok hc hC.1 (by have := hC.2.1; omega)]
    exact ⟨rfl, by omega, by have := hC.2.1; omega⟩
  · cases h
    obtain ⟨c, rfl, hc⟩ := hlo _ rfl
    obtain ⟨c', rfl, hc'⟩ := hhi _ rfl
    obtain ⟨h1, h2, h3, _⟩ := hC
    simp only [Sem.run_pure, Result.andThen_ok, Sem.run_bind]
    rw [bound_ok hc' (by omega) (by omega)]
    simp only [Result.andThen_ok]
    rw [bound_ok hc h1 (by omega)]
    exact ⟨rfl, by omega, by omega⟩
  · cases h

def sliceA (P : Program) (t : TypeId) (x : V) (lo hi : Option V) (blk : Nat → Option Blk) : Option (List Prop × V) :=
  match P.underlying t, x with
  | some .string, .s l => cutS l lo hi
  | some (.slice e), .sl id off len => match P.info? e, blk id, cutB len lo hi with
    | some i, some b, some (C, x, y) => if i.size == b.size then some (C, .sl id (off + x) (y - x)) else none
    | _, _, _ => none
  | some (.slice e), .ro α size enc d l => match P.info? e, cutB l.length lo hi with
    | some i, some (C, x, y) => if i.size == size then some (C, .ro α size enc d ((l.take y).drop x)) else none
    | _, _ => none
  | some (.slice e), .nils => match P.info? e, cutB 0 lo hi with
    | some _, some (C, _, _) => some (C, .nils)
    | _, _ => none
  | some (.array n e), .rp α size enc d l idx sub => match P.info? e, lo, hi with
    | some i, none, none => if i.size == size && idx == 0 && sub == 0 && l.length == n then some ([], .ro α size enc d l) else none
    | _, _, _ => none
  | _, _ => none

theorem sliceA_ok {ρ σ D H F w P t x v c lo hi} {a b : Option Value} {C} (h : sliceA P t x lo hi H = some (C, v)) (hC : allP C) (hH : HInv ρ σ D H F w) (hx : VR ρ σ x c)
    (hlo : ∀ x, lo = some x → ∃ c, a = some c ∧ VR ρ σ x c) (hln : lo = none → a = none)
    (hhi : ∀ x, hi = some x → ∃ c, b = some c ∧ VR ρ σ x c) (hhn : hi = none → b = none) :
    ∃ z, (Instr.sliceAt t c a b none).run P w = .ok z w ∧ VR ρ σ v z := by
  unfold sliceA at h
  split at h
  · rename_i l hu
    cases hx
    rename_i s hs
    exact cutS_ok h hC hs hu w hlo hln hhi hhn
  · rename_i e id off len hu
    split at h
    · rename_i i b' C' x y hi' hb hcut
      split at h
      · rename_i hsz
        cases h
        cases hx
        rename_i L a0 cap hL hc hl
        obtain ⟨M, hM, hB⟩ := hH.blk _ _ hb
        rw [hL] at hM; cases hM
        have hes : i.size = L.es := by rw [hB.1]; simpa using hsz
        obtain ⟨hr, hxy, hyn⟩ := cutB_ok hcut hC hl P w true hlo hln hhi hhn
        simp only [Instr.sliceAt, Sem.run_bind, run_underlying hu, Result.andThen_ok, Instr.slice, hr, run_sizeOf hi', Sem.run_pure]
        refine ⟨_, rfl, .sl hL (by omega) fun h0 => ?_⟩
        obtain ⟨ha, hcap⟩ := hc (by omega)
        rw [if_neg (by omega), ha]
        refine ⟨?_, ?_⟩
        · simp only [Option.map_some, add_at, hes, Nat.add_mul]
        · rw [show off + x + (cap - x) = off + cap by omega]; exact hcap
      · cases h
    · cases h
  · rename_i e α size enc d l hu
    split at h
    · rename_i i C' x y hi' hcut
      split at h
      · rename_i hsz
        cases h
        have hsz' : i.size = size := by simpa using hsz
        cases hx
        rename_i a0 cap g hl hrd hv
        obtain ⟨hr, hxy, hyn⟩ := cutB_ok hcut hC hl P w true hlo hln hhi hhn
        simp only [Instr.sliceAt, Sem.run_bind, run_underlying hu, Result.andThen_ok, Instr.slice, hr, run_sizeOf hi', Sem.run_pure]
        have hlen : ((l.take y).drop x).length = y - x := by simp; omega
        have hget : ∀ k, k < y - x → ((l.take y).drop x).getD k d = l.getD (k + x) d := by
          intro k hk
          simp only [List.getD_eq_getElem?_getD, List.getElem?_drop, List.getElem?_take]
          rw [if_pos (by omega), Nat.add_comm]
        refine ⟨_, rfl, ?_⟩
        rw [← hlen]
        refine .ro (fun k j => g (k + x) j) (by rw [hlen]; omega) (fun k hk j hj => ?_) (fun k hk j hj => ?_)
        · rw [hlen] at hk
          have := hrd (k + x) (by omega) j hj
          by_cases hcx : cap = x
          · omega
          · rw [if_neg hcx]
            cases a0 with
            | none => simp [rd] at this
            | some a0 =>
              obtain ⟨r, o, sp⟩ := a0
              cases sp with
              | some _ => simp [rd] at this
              | none =>
                simp only [Option.map_some, add_at]
                rw [← this]
                simp only [rd, hsz']
                rw [show o + x * size + (k * size + j) = o + ((k + x) * size + j) by rw [Nat.add_mul]; omega]
        · rw [hlen] at hk
          rw [hget k hk]; exact hv (k + x) (by omega) j hj
      · cases h
    · cases h
  · rename_i e hu
    split at h
    · rename_i i C' x y hi' hcut
      cases h
      cases hx
      obtain ⟨hr, hxy, hyn⟩ := cutB_ok hcut hC (Nat.le_refl 0) P w true hlo hln hhi hhn
      simp only [Instr.sliceAt, Sem.run_bind, run_underlying hu, Result.andThen_ok, Instr.slice, hr, run_sizeOf hi', Sem.run_pure]
      have h1 : y - x = 0 := by omega
      have h2 : 0 - x = 0 := by omega
      rw [h1, h2]
      exact ⟨_, rfl, .nils⟩
    · cases h
  · rename_i n e α size enc d l idx sub hu
    split at h
    · rename_i i hi'
      split at h
      · rename_i hsz
        cases h
        simp only [Bool.and_eq_true, beq_iff_eq] at hsz
        obtain ⟨⟨⟨hs1, rfl⟩, rfl⟩, hs2⟩ := hsz
        cases hx
        rename_i r off g hrd hv
        rw [hln rfl, hhn rfl]
        simp only [Instr.sliceAt, Sem.run_bind, run_underlying hu, Result.andThen_ok, Instr.sureAddr, Sem.run_pure, Instr.sliceBounds, run_sizeOf hi']
        refine ⟨_, rfl, ?_⟩
        rw [← hs2, Nat.sub_zero]
        refine .ro g (Nat.le_refl _) (fun k hk j hj => ?_) hv
        rw [if_neg (by omega), add_at]
        have := hrd k hk j hj
        rw [← this]; simp
      · cases h
    · cases h
  · cases h

/-! Reading. -/

def loadO (P : Program) (t : TypeId) (x : V) (blk : Nat → Option Blk) : Option Out :=
  match x with
  | .p id idx sub => match blk id with
    | some b => match loadA P t (b.enc (b.l.getD idx b.d)) sub b.size with
      | some v => some ⟨[idx < b.l.length], [], v, []⟩
      | none => none
    | none => none
  | .rp _ size enc d l idx sub => match loadA P t (enc (l.getD idx d)) sub size with
    | some v => if Nat.ble 1 size then some ⟨[idx < l.length], [], v, []⟩ else none
    | none => none
  | _ => none

theorem VR.of_no {ρ σ v x} (h : VR ρ noSig v x) : VR ρ σ v x := h.mono (leM.refl _) (fun _ _ h => by cases h)

theorem loadO_ok {ρ σ D H F w P t x a out} (h : loadO P t x H = some out) (hC : allP out.C) (hH : HInv ρ σ D H F w) (hx : VR ρ σ x a) :
    ∃ z, (Instr.loadAt t a).run P w = .ok z w ∧ Fin ρ σ D H F out z w := by
  unfold loadO at h
  split at h
  · rename_i id idx sub
    split at h
    · rename_i b hb
      split at h
      · rename_i v hv
        cases h
        cases hx
        rename_i L hL
        obtain ⟨M, hM, hB⟩ := hH.blk _ _ hb
        rw [hL] at hM; cases hM
        obtain ⟨hes, hpos, hcase⟩ := hB
        have hidx := hC.1
        rcases hcase with ⟨_, hnil⟩ | ⟨c, ty, fz, hw, hcs, hle, _, hcell⟩
        · rw [hnil] at hidx; simp at hidx
        · obtain ⟨z, hz, hzv⟩ := loadA_ok (ρ := ρ) (σ := σ) hv hw (base := idx * b.size) (fun j hj => hcell idx hidx j hj)
          rw [hes]
          exact ⟨z, hz, Fin.pure hH hzv⟩
      · cases h
    · cases h
  · rename_i α size enc d l idx sub
    split at h
    · rename_i v hv
      split at h
      · rename_i hz
        cases h
        cases hx
        rename_i r off g hrd hval
        simp only [Nat.ble_eq] at hz
        have hidx := hC.1
        · have h00 := hrd idx hidx 0 (by omega)
          unfold rd at h00
          simp only at h00
          split at h00
          · rename_i c ty fz hρ
            have hw := hH.rmem _ _ hρ
            obtain ⟨z, hz', hzv⟩ := loadA_ok (ρ := ρ) (σ := σ) hv hw (base := off + idx * size) (fun j hj => by
              have := hrd idx hidx j hj
              unfold rd at this
              simp only [hρ] at this
              exact ⟨g idx j, by rw [← this, Nat.add_assoc], (hval idx hidx j hj).of_no⟩)
            rw [← Nat.add_assoc]
            exact ⟨z, hz', Fin.pure hH hzv⟩
          · cases h00
      · cases h
    · cases h
  · cases h

/-! Storing. -/

def allScal : List V → Bool
  | [] => true
  | x :: r => scal x && allScal r
theorem allScal_mem {l : List V} (h : allScal l = true) : ∀ i, i < l.length → scal (l.getD i .u) = true := by
  induction l with
  | nil => intro i hi; simp at hi
  | cons x r ih =>
    simp only [allScal, Bool.and_eq_true] at h
    intro i hi
    cases i with
    | zero => exact h.1
    | succ i => exact ih h.2 i (by simpa using hi)

def storeO (P : Program) (t : TypeId) (x v : V) (blk : Nat → Option Blk) : Option Out :=
  match x with
  | .p id idx sub => match blk id, P.info? t with
    | some b, some i =>
      if (vcells v).length == i.size && allScal (vcells v) && notTup v && Nat.ble (sub + i.size) b.size && (b.enc (b.l.getD idx b.d)).length == b.size then
        some ⟨[idx < b.l.length], [(b.enc (b.dec (splice (b.enc (b.l.getD idx b.d)) sub (vcells v))), splice (b.enc (b.l.getD idx b.d)) sub (vcells v))], .u,
          [(id, some { b with l := b.l.set idx (b.dec (splice (b.enc (b.l.getD idx b.d)) sub (vcells v))) })]⟩
      else none
    | _, _ => none
  | _ => none

theorem set_getD {α : Type} (l : List α) (i : Nat) (x d : α) (k : Nat) (hi : i < l.length) : (l.set i x).getD k d = if k = i then x else l.getD k d := by
  simp only [List.getD_eq_getElem?_getD, List.getElem?_set]
  by_cases h : i = k
  · subst h; simp [hi]
  · rw [if_neg h, if_neg (fun e => h e.symm)]

theorem storeO_ok {ρ σ D H F w P t x v a c out} (h : storeO P t x v H = some out) (hC : allP out.C) (hS : allS out.S) (hH : HInv ρ σ D H F w) (hx : VR ρ σ x a) (hv : VR ρ σ v c) :
    ∃ w', (Instr.storeAt t a c).run P w = .ok () w' ∧ Fin ρ σ D H F out undef w' := by
  unfold storeO at h
  split at h
  · rename_i id idx sub
    split at h
    · rename_i b i hb hi
      split at h
      · rename_i hc
        cases h
        simp only [Bool.and_eq_true, beq_iff_eq, Nat.ble_eq] at hc
        obtain ⟨⟨⟨⟨hc1, hc2⟩, hc3⟩, hc4⟩, hc5⟩ := hc
        cases hx
        rename_i L hL
        obtain ⟨M, hM, hB⟩ := hH.blk _ _ hb
        rw [hL] at hM; cases hM
        obtain ⟨hes, hpos, hcase⟩ := hB
        have hidx : idx < b.l.length := hC.1
        have hSe := hS.1
        dsimp only at hSe
        rcases hcase with ⟨_, hnil⟩ | ⟨cs, ty, fz, hw, hcs, hle, hfz, hcell⟩
        · rw [hnil] at hidx; simp at hidx
        · obtain ⟨hv1, hv2⟩ := vcells_ok hv hc3
          have hbound : idx * b.size + b.size ≤ cs.size := by
            have : (idx + 1) * b.size ≤ b.l.length * b.size := Nat.mul_le_mul_right _ hidx
            rw [Nat.add_mul, Nat.one_mul] at this; omega
          obtain ⟨w', cs', hr, ho, hw', hsz, hcsz, hk⟩ := run_storeVar (P := P) (off := idx * b.size + sub) hi (by rw [← hv1]; exact hc1) hw hfz.out (by rw [← hv1]; omega) (by
            intro y hy
            obtain ⟨n, hn, rfl⟩ := List.getElem_of_mem hy
            simp only [Array.length_toList] at hn
            simp only [Array.getElem_toList]
            exact scal_cell (hv2 n hn) (allScal_mem hc2 n (by rw [hv1]; exact hn)))
          have hcap : L.cap ≠ 0 := by omega
          refine ⟨w', ?_, σ, .u, leS.refl _, (hH.write (b' := { b with l := b.l.set idx (b.dec (splice (b.enc (b.l.getD idx b.d)) sub (vcells v))) }) hb hL hcap ho.1 ho.2 ⟨hes, hpos, .inr ⟨cs', ty, fz, hw', by rw [hcsz]; exact hcs, ?_, by rw [hcsz]; exact hfz, ?_⟩⟩).wider (fun _ h => Or.inl h)⟩
          · simp only [Instr.storeAt, Instr.sureAddr, Sem.run_bind, Sem.run_pure, Result.andThen_ok]
            rw [hes]; exact hr
          · simp only [List.length_set]; rw [hcsz]; exact hle
          · intro k hkl j hj
            simp only [List.length_set] at hkl
            dsimp only at hj ⊢
            rw [set_getD _ _ _ _ _ hidx]
            by_cases e : k = idx
            · subst e
              rw [if_pos rfl, hSe]
              rw [splice_getD _ _ _ (by rw [hc1, hc5]; exact hc4)]
              by_cases hin : sub ≤ j ∧ j < sub + (vcells v).length
              · rw [if_pos hin]
                have hlt : j - sub < c.cells.size := by rw [← hv1]; omega
                refine ⟨c.cells[j - sub], ?_, hv2 _ hlt⟩
                rw [hk, if_pos (by rw [← hv1]; omega), show k * b.size + j - (k * b.size + sub) = j - sub by omega]
                exact Array.getElem?_eq_getElem hlt
              · rw [if_neg hin]
                obtain ⟨y, hy, hyv⟩ := hcell k hkl j hj
                refine ⟨y, ?_, hyv⟩
                rw [hk, if_neg (by rw [← hv1]; omega)]; exact hy
            · rw [if_neg e]
              obtain ⟨y, hy, hyv⟩ := hcell k hkl j hj
              refine ⟨y, ?_, hyv⟩
              rw [hk, if_neg ?_]
              · exact hy
              · rintro ⟨h1, h2⟩
                rcases Nat.lt_or_gt_of_ne e with hlt | hgt
                · have : (k + 1) * b.size ≤ idx * b.size := Nat.mul_le_mul_right _ hlt
                  rw [Nat.add_mul, Nat.one_mul] at this; omega
                · have : (idx + 1) * b.size ≤ k * b.size := Nat.mul_le_mul_right _ hgt
                  rw [Nat.add_mul, Nat.one_mul] at this
                  rw [← hv1, hc1] at h2; omega
      · cases h
    · cases h
  · cases h

/-! New blocks. -/

theorem newRow_ok {ρ σ D H F w id} {b : Blk} {cs : Array Value} (hH : HInv ρ σ D H F w) (hid : σ id = none) (hpos : 0 < b.size) (hle : b.l.length * b.size ≤ cs.size)
    (hcell : ∀ k, k < b.l.length → ∀ j, j < b.size → ∃ x, cs[k * b.size + j]? = some x ∧ VR ρ σ ((b.enc (b.l.getD k b.d)).getD j .u) x) (e : TypeId) (fz : Nat × Nat)
    (hfz : fzOK fz cs.size) {w'} (hw : sameIO w w' ∧ ∀ r, r < w.heap.size → w'.heap[r]? = w.heap[r]?) (hw' : w'.heap[w.heap.size]? = some (.cells cs e fz)) :
    leS σ (updS σ id ⟨w.heap.size, cs.size, b.size⟩) ∧ HInv ρ (updS σ id ⟨w.heap.size, cs.size, b.size⟩) (fun j => D j ∨ j = id) (upd H id (some b)) F w' := by
  refine ⟨leS_updS hid, hH.fresh hid hw.1 hw.2 (fun _ => Nat.le_refl _) ⟨rfl, hpos, ?_⟩⟩
  refine .inr ⟨cs, e, fz, hw', rfl, hle, hfz, fun k hk j hj => ?_⟩
  obtain ⟨x, hx, hv⟩ := hcell k hk j hj
  exact ⟨x, hx, hv.mono (leM.refl _) (leS_updS hid)⟩

theorem push_old {w : World} {o : Obj} {n : Nat} : ∀ r, r < w.heap.size → ({ w with heap := w.heap.push o, drawn := n } : World).heap[r]? = w.heap[r]? := by
  intro r hr; simp [Array.getElem?_push, Nat.ne_of_lt hr]
theorem push_old2 {w : World} {o : Obj} {n : Nat} : sameIO w ({ w with heap := w.heap.push o, drawn := n } : World) ∧ ∀ r, r < w.heap.size → ({ w with heap := w.heap.push o, drawn := n } : World).heap[r]? = w.heap[r]? := ⟨⟨rfl, rfl⟩, push_old⟩
theorem push_new {w : World} {o : Obj} {n : Nat} : ({ w with heap := w.heap.push o, drawn := n } : World).heap[w.heap.size]? = some o := by simp

/-- One variable on the heap. -/
def boxO (id : Nat) (b : Blk) (cells : List V) : Option Out :=
  if cells.length == b.size && Nat.ble 1 b.size then
    some ⟨[], [(b.enc (b.dec cells), cells)], .p id 0 0, [(id, some { b with l := [b.dec cells] })]⟩
  else none

theorem boxO_ok {ρ σ D H F w id b cells out} {cs : Array Value} (h : boxO id b cells = some out) (hS : allS out.S) (hH : HInv ρ σ D H F w) (hid : σ id = none)
    (hc : CellsR ρ σ cells cs) (e : TypeId) : Fin ρ σ D H F out (.pointer (some ⟨w.heap.size, 0, none⟩)) { w with heap := w.heap.push (.cells cs e) } := by
  unfold boxO at h
  split at h
  · rename_i hsz
    cases h
    simp only [Bool.and_eq_true, beq_iff_eq, Nat.ble_eq] at hsz
    have hSe := hS.1
    dsimp only at hSe
    obtain ⟨h1, h2⟩ := newRow_ok (b := { b with l := [b.dec cells] }) (cs := cs) hH hid hsz.2 (by simp; rw [← hc.1, hsz.1]; exact Nat.le_refl _) (by
      intro k hk j hj
      have hk0 : k = 0 := by simpa using hk
      subst hk0
      dsimp only at hj ⊢
      have hlt : j < cs.size := by rw [← hc.1, hsz.1]; exact hj
      refine ⟨cs[j], by simp [hlt], ?_⟩
      simp only [List.getD_cons_zero]
      rw [hSe]; exact hc.2 j hlt) e (0, 0) (.inl rfl) (push_old2 (n := w.drawn)) push_new
    refine ⟨_, ?_, h1, h2.wider (fun j hj => by simpa using hj)⟩
    have := VR.p (ρ := ρ) (σ := updS σ id ⟨w.heap.size, cs.size, b.size⟩) (id := id) (idx := 0) (sub := 0) (L := ⟨w.heap.size, cs.size, b.size⟩) (by simp [updS])
    simpa using this
  · cases h

end Go.Proofs.YtiekchfipaiflaaGreatDoor
