/- All operations that touch no memory, and what is asked of those that do: the abstract outcome of one operation. -/
import Derived.Test.YtiekchfipaiflaaGreatDoorLf
namespace Go.Proofs.YtiekchfipaiflaaGreatDoor
open Go

/-- What an operation comes to: what must hold of its numbers (C), of the shapes of elements (S), its value, the blocks that it lays anew. -/
structure Out : Type 1 where
  C : List Prop
  S : List (List V × List V)
  v : V
  wr : List (Nat × Option Blk)

/-- What is told of an operation that makes a block: its number, how its elements are typed. -/
inductive Ann : Type 1
  | auto
  | fresh (id : Nat) (b : Blk)

def pureO (x : List Prop × V) : Out := ⟨x.1, [], x.2, []⟩

def isIfc : TypeDesc → Bool
  | .interface _ => true
  | _ => false

def unA (op : UnOp) (x : V) : Option (List Prop × V) :=
  match op, x with
  | .not, .b a => some ([], .b (!a))
  | .neg, .i k n => intA .sub k 0 n
  | .xor, .i k n => intA .xor k (if k.signed then -1 else k.max) n
  | _, _ => none

theorem unA_ok {ρ σ op x a C v} (h : unA op x = some (C, v)) (hC : allP C) (hx : VR ρ σ x a) (P : Program) (w : World) :
    ∃ z, (Op.unary op a).run P w = .ok z w ∧ VR ρ σ v z := by
  unfold unA at h
  split at h
  · cases h; cases hx; exact ⟨_, rfl, .b⟩
  · cases hx; exact intA_ok h hC rfl P w
  · cases hx; exact intA_ok h hC rfl P w
  · cases h

def idxS (l : List Int) (ix : V) : Option (List Prop × V) :=
  match ix with
  | .i _ n => some ([0 ≤ n, n < (l.length : Int)], .i .u8 (l.getD n.toNat 0))
  | _ => none

theorem idxS_ok {ρ σ P t l s ix a C v} (h : idxS l ix = some (C, v)) (hC : allP C) (hs : strL s = l) (hx : VR ρ σ ix a)
    (ht : P.underlying t = some .string) (w : World) : ∃ z, (Instr.index t (.string s) a).run P w = .ok z w ∧ VR ρ σ v z := by
  unfold idxS at h
  split at h
  · rename_i k n
    cases h
    cases hx
    obtain ⟨h0, h1, _⟩ := hC
    simp only [Instr.index, asIntOf, Sem.run_bind, Sem.run_pure, Result.andThen_ok, run_underlying ht, if_pos h0]
    have hlt : n.toNat < s.data.size := by
      have : l.length = s.data.size := by rw [← hs]; simp [strL]
      omega
    have hg : s[n.toNat]? = some s.data[n.toNat] := by
      show (if h : n.toNat < s.size then some s[n.toNat] else none) = _
      rw [dif_pos (show n.toNat < s.size from hlt)]; rfl
    rw [hg]
    have e : l.getD n.toNat 0 = ((s.data[n.toNat]).toNat : Int) := by
      rw [← hs]
      simp only [strL, List.getD_eq_getElem?_getD, List.getElem?_map, Array.getElem?_toList, Array.getElem?_eq_getElem hlt, Option.map_some, Option.getD_some]
    rw [e]
    refine ⟨_, rfl, .i (.inr ?_)⟩
    have := (s.data[n.toNat]).toNat_lt
    constructor <;> simp [IntKind.min, IntKind.max, IntKind.signed, IntKind.bits] <;> omega
  · cases h

def lenA (P : Program) (t : TypeId) (x : V) : Option V :=
  match P.underlying t, x with
  | some .string, .s l => some (.i .i64 (l.length : Int))
  | some (.slice _), .sl _ _ n => some (.i .i64 (n : Int))
  | some (.slice _), .ro _ _ _ _ l => some (.i .i64 (l.length : Int))
  | some (.slice _), .nils => some (.i .i64 0)
  | _, _ => none

theorem lenA_ok {ρ σ P t x v} {ats : Array TypeId} {ty} {as : Array Value} {a} (h : lenA P t x = some v) (ha : ats[0]? = some t) (hs : as[0]? = some a) (hx : VR ρ σ x a) (w : World) :
    ∃ z, (Builtin.len_ ats ty as).run P w = .ok z w ∧ VR ρ σ v z := by
  simp only [Builtin.len_, ha, hs]
  unfold lenA at h
  split at h
  all_goals first
    | (rename_i hu; cases h; cases hx; simp only [Sem.run_bind, run_underlying hu, Result.andThen_ok]; exact ⟨_, rfl, .i (.inl rfl)⟩)
    | skip
  · rename_i l hu
    cases h; cases hx
    rename_i s hs'
    simp only [Sem.run_bind, run_underlying hu, Result.andThen_ok]
    refine ⟨_, rfl, ?_⟩
    have : (l.length : Int) = (s.size : Int) := by rw [← hs']; simp
    rw [this]; exact .i (.inl rfl)
  · cases h

def extractA (x : V) (i : Nat) : Option V :=
  match x with
  | .tup l => if Nat.ble (i + 1) l.length then some (l.getD i .u) else none
  | _ => none
theorem extractA_ok {ρ σ x a i v} (h : extractA x i = some v) (hx : VR ρ σ x a) (P : Program) (w : World) :
    ∃ z, (Instr.extract a i).run P w = .ok z w ∧ VR ρ σ v z := by
  unfold extractA at h
  split at h
  · split at h
    · rename_i hc
      cases h; cases hx
      rename_i cs hn hv
      have hlt : i < cs.size := by simp only [Nat.ble_eq] at hc; omega
      simp only [Instr.extract, Array.getElem?_eq_getElem hlt]
      exact ⟨_, rfl, hv i hlt⟩
    · cases h
  · cases h

def fieldV (P : Program) (t : TypeId) (x : V) (f : Nat) : Option V :=
  match x with
  | .agg l => match fieldOf P t f with
    | some fd => partA P fd.type l fd.offset
    | none => none
  | _ => none
theorem fieldV_ok {ρ σ P t x a f v} (h : fieldV P t x f = some v) (hx : VR ρ σ x a) (w : World) :
    ∃ z, (Instr.field t a f).run P w = .ok z w ∧ VR ρ σ v z := by
  unfold fieldV at h
  split at h
  · split at h
    · rename_i fd hfd
      cases hx
      rename_i cs hn hv
      unfold fieldOf at hfd
      split at hfd
      · rename_i fs hu
        have : fs[f]? = some fd := by rw [← hfd]; simp
        simp only [Instr.field, Sem.run_bind, run_underlying hu, Result.andThen_ok, this, asAgg, Sem.run_pure]
        exact partA_ok h hn hv w
      · cases hfd
    · cases h
  · cases h

/-- An element's place: in a block, in read-only memory, in an array within a block. -/
def idxA (P : Program) (t : TypeId) (x ix : V) (blk : Nat → Option Blk) : Option (List Prop × V) :=
  match ix with
  | .i _ n => match P.underlying t, x with
    | some (.slice e), .sl id off len => match P.info? e, blk id with
      | some i, some b => if i.size == b.size then some ([0 ≤ n, n < (len : Int)], .p id (off + n.toNat) 0) else none
      | _, _ => none
    | some (.slice e), .ro α size enc d l => match P.info? e with
      | some i => if i.size == size && Nat.ble 1 size then some ([0 ≤ n, n < (l.length : Int)], .rp α size enc d l n.toNat 0) else none
      | none => none
    | some (.array m e), .p id idx sub => match P.info? e with
      | some i => some ([0 ≤ n, n < (m : Int)], .p id idx (sub + n.toNat * i.size))
      | none => none
    | some (.array m e), .rp α size enc d l idx sub => match P.info? e with
      | some i => if i.size == size && idx == 0 && sub == 0 then some ([0 ≤ n, n < (m : Int)], .rp α size enc d l n.toNat 0) else none
      | none => none
    | _, _ => none
  | _ => none

theorem idxA_ok {ρ σ D H F w P t x ix a c C v} (h : idxA P t x ix H = some (C, v)) (hC : allP C) (hH : HInv ρ σ D H F w) (hx : VR ρ σ x a) (hix : VR ρ σ ix c) :
    ∃ z, (Instr.indexAt t a c).run P w = .ok z w ∧ VR ρ σ v z := by
  unfold idxA at h
  split at h
  · rename_i k n
    cases hix
    split at h
    · rename_i e id off len hu
      split at h
      · rename_i i b hi hb
        split at h
        · rename_i hsz
          cases h
          obtain ⟨h0, h1, _⟩ := hC
          cases hx
          rename_i L a cap hL hc hl
          obtain ⟨ha, hc2⟩ := hc (by omega)
          subst ha
          obtain ⟨M, hM, hB⟩ := hH.blk _ _ hb
          rw [hL] at hM; cases hM
          have hes : i.size = L.es := by rw [hB.1]; simpa using hsz
          simp only [Instr.indexAt, asIntOf, Sem.run_bind, Sem.run_pure, Result.andThen_ok, run_underlying hu, Sem.run_ite, if_pos (show 0 ≤ n ∧ n < (len : Int) from ⟨h0, h1⟩), run_sizeOf hi, add_at]
          refine ⟨_, rfl, ?_⟩
          have e : off * L.es + n.toNat * i.size = (off + n.toNat) * L.es + 0 := by rw [hes, Nat.add_mul]; rfl
          rw [e]; exact .p hL
        · cases h
      · cases h
    · rename_i e α size enc d l hu
      split at h
      · rename_i i hi
        split at h
        · rename_i hsz
          cases h
          obtain ⟨h0, h1, _⟩ := hC
          simp only [Bool.and_eq_true, beq_iff_eq, Nat.ble_eq] at hsz
          obtain ⟨hsz', hz⟩ := hsz
          cases hx
          rename_i a cap g hl hr hv
          · have h00 := hr 0 (by omega) 0 (by omega)
            have : ∃ r off, a = some ⟨r, off, none⟩ := by
              unfold rd at h00
              split at h00
              · exact ⟨_, _, rfl⟩
              · cases h00
            obtain ⟨r, off, rfl⟩ := this
            simp only [Instr.indexAt, asIntOf, Sem.run_bind, Sem.run_pure, Result.andThen_ok, run_underlying hu, Sem.run_ite, if_pos (show 0 ≤ n ∧ n < (l.length : Int) from ⟨h0, h1⟩), run_sizeOf hi, add_at]
            refine ⟨_, rfl, ?_⟩
            rw [hsz']
            exact .rp g hr hv
        · cases h
      · cases h
    · rename_i m e id idx sub hu
      split at h
      · rename_i i hi
        cases h
        obtain ⟨h0, h1, _⟩ := hC
        cases hx
        rename_i L hL
        simp only [Instr.indexAt, asIntOf, Sem.run_bind, Sem.run_pure, Result.andThen_ok, run_underlying hu, Instr.sureAddr, Sem.run_ite, if_pos (show 0 ≤ n ∧ n < (m : Int) from ⟨h0, h1⟩), run_sizeOf hi, add_at]
        exact ⟨_, rfl, by rw [Nat.add_assoc]; exact .p hL⟩
      · cases h
    · rename_i m e α size enc d l idx sub hu
      split at h
      · rename_i i hi
        split at h
        · rename_i hsz
          cases h
          simp only [Bool.and_eq_true, beq_iff_eq] at hsz
          obtain ⟨⟨hs1, rfl⟩, rfl⟩ := hsz
          obtain ⟨h0, h1, _⟩ := hC
          cases hx
          rename_i r off g hr hv
          simp only [Instr.indexAt, asIntOf, Sem.run_bind, Sem.run_pure, Result.andThen_ok, run_underlying hu, Instr.sureAddr, Sem.run_ite, if_pos (show 0 ≤ n ∧ n < (m : Int) from ⟨h0, h1⟩), run_sizeOf hi, add_at]
          refine ⟨_, rfl, ?_⟩
          have e : off + (0 * size + 0) + n.toNat * i.size = off + (n.toNat * size + 0) := by rw [hs1]; simp
          rw [e]; exact .rp g hr hv
        · cases h
      · cases h
    · cases h
  · cases h

end Go.Proofs.YtiekchfipaiflaaGreatDoor
