/- All operations but calls of functions: the outcome, and that the model does the same. -/
import Derived.Test.YtiekchfipaiflaaGreatDoorLm
namespace Go.Proofs.YtiekchfipaiflaaGreatDoor
open Go

inductive An : Type 1
  | auto
  | fresh (id : Nat) (b : Blk)
  | fresh2 (id0 id : Nat) (b : Blk)

def optV (ev : Operand → V) : Option Operand → Option V
  | none => none
  | some x => some (ev x)

def isZero : Option V → Bool
  | some (.i _ 0) => true
  | _ => false
def zeroCut (x : V) (lo hi mx : Option V) : Option (List Prop × V) :=
  match lo, x with
  | none, .sl .. | none, .ro .. | none, .nils => if isZero hi && isZero mx then some ([], .nils) else none
  | _, _ => none

def evParts (ev : Operand → V) : List (Nat × Operand) → List (Nat × V)
  | [] => []
  | (i, x) :: r => (i, ev x) :: evParts ev r

/-- A slice with its bound told: of a slice, all three told. -/
def slice3 (P : Program) (t : TypeId) (x : V) (lo hi mx : Option V) (blk : Nat → Option Blk) : Option (List Prop × V) :=
  match P.underlying t, x, lo, hi, mx with
  | some (.slice e), .sl id off len, some (.i _ a), some (.i _ b), some (.i _ c) => match P.info? e, blk id with
    | some i, some b' => if i.size == b'.size then some ([0 ≤ a, a ≤ b, b ≤ c, c ≤ ((len : Nat) : Int)], .sl id (off + a.toNat) (b.toNat - a.toNat)) else none
    | _, _ => none
  | some (.slice e), .ro α size enc d l, some (.i _ a), some (.i _ b), some (.i _ c) => match P.info? e with
    | some i => if i.size == size then some ([0 ≤ a, a ≤ b, b ≤ c, c ≤ ((l.length : Nat) : Int)], .ro α size enc d ((l.take b.toNat).drop a.toNat)) else none
    | none => none
  | _, _, _, _, _ => none
def binT (P : Program) (op : BinOp) (t : TypeId) (x y : V) : Option (List Prop × V) :=
  match isEq op with
  | false => binA op x y
  | true => match P.underlying t with
    | some d => if eqTy x y d then binA op x y else none
    | none => none

def outP (x : Option (List Prop × V)) : Option Out :=
  match x with
  | some (C, v) => some ⟨C, [], v, []⟩
  | none => none
def outV (x : Option V) : Option Out :=
  match x with
  | some v => some ⟨[], [], v, []⟩
  | none => none

def isNils : V → Bool
  | .nils => true
  | _ => false

def bltO (P : Program) (b : Builtin) (ats : List TypeId) (args : List V) (blk : Nat → Option Blk) (an : An) : Option Out :=
  match b, ats, args with
  | .len, t :: _, x :: _ => outV (lenA P t x)
  | .min, _, l => outV (minA l)
  | .max, _, l => outV (maxA l)
  | .append, t :: tx :: _, [x, y] => match P.underlying tx with
    | some d => if isIntD d then none else match an with
      | .fresh2 id0 id b => if isNils x && Nat.ble 1 b.size then appendO P t (.sl id0 0 0) y (upd blk id0 (some { b with l := [] })) id else none
      | .fresh id _ => appendO P t x y blk id
      | .auto => none
    | none => none
  | .copy, t :: _, [x, y] => copyO P t x y blk
  | .clear, t :: _, [x] => clearO P t x blk
  | _, _, _ => none

/-- Structs of plain cells: are they alike? -/
def eqFs (P : Program) (rec : TypeId → V → V → Option Bool) (xs ys : List V) : List Field → Option Bool
  | [] => some true
  | f :: fs => if f.name = "_" then none else match partA P f.type xs f.offset, partA P f.type ys f.offset with
    | some a, some b => match rec f.type a b, eqFs P rec xs ys fs with
      | some r, some q => some (r && q)
      | _, _ => none
    | _, _ => none
def eqA (P : Program) : Nat → TypeId → V → V → Option Bool
  | 0, _, _, _ => none
  | d + 1, t, x, y => match x, y with
    | .i k a, .i k' b => match P.underlying t with
      | some (.int _) => if kEq k k' then some (decide (a = b)) else none
      | _ => none
    | .b a, .b b => match P.underlying t with
      | some .bool => some (a == b)
      | _ => none
    | .s a, .s b => match P.underlying t with
      | some .string => some (decide (a = b))
      | _ => none
    | .agg l, .agg l' => match P.underlying t with
      | some (.struct fs) => match P.stoodInHeld t with
        | false => eqFs P (eqA P d) l l' fs.toList
        | true => none
      | _ => none
    | _, _ => none
def eqT (P : Program) (op : BinOp) (t : TypeId) (x y : V) : Option (List Prop × V) :=
  match P.eqGuardType P.depth t with
  | true => none
  | false => match eqA P 100 t x y with
    | some r => match op with
      | .eql => some ([], .b r)
      | .neq => some ([], .b (!r))
      | _ => none
    | none => none
def isAgg2 : V → V → Bool
  | .agg _, .agg _ => true
  | _, _ => false

/-- Bytes made of a text, marked once more. -/
def markO (P : Program) (src dst : TypeId) (x : V) (blk : Nat → Option Blk) : Option Out :=
  match P.underlying src, P.underlying dst, x with
  | some (.slice _), some (.slice e), .sl id off n => match Nat.beq src dst, P.underlying e, blk id with
    | true, some (.int .u8), some b => some ⟨[0 < n], [], .sl id off n, [(id, some b)]⟩
    | _, _, _ => none
  | _, _, _ => none

def opO (P : Program) (o : Op) (ev : Operand → V) (blk : Nat → Option Blk) (an : An) : Option Out :=
  match o with
  | .move x | .assign x => some ⟨[], [], ev x, []⟩
  | .nilCheck x => match ev x with
    | .p id idx sub => some ⟨[], [], .p id idx sub, []⟩
    | .rp α size enc d l idx sub => some ⟨[], [], .rp α size enc d l idx sub, []⟩
    | _ => none
  | .binOp op t x y _ => match isAgg2 (ev x) (ev y) with
    | true => outP (eqT P op t (ev x) (ev y))
    | false => outP (binT P op t (ev x) (ev y))
  | .unOp op _ x => outP (unA op (ev x))
  | .convert s d x => match an with
    | .fresh id b => ofStrO P s d (ev x) id b
    | _ => match convA P s d (ev x) with
      | some (C, v) => some ⟨C, [], v, []⟩
      | none => match markO P s d (ev x) blk with
        | some out => some out
        | none => toStrO P s d (ev x) blk
  | .slice t x lo hi none => outP (sliceA P t (ev x) (optV ev lo) (optV ev hi) blk)
  | .slice t x lo hi (some mx) => match P.underlying t with
    | some (.slice e) => match P.info? e with
      | some _ => match zeroCut (ev x) (optV ev lo) (optV ev hi) (some (ev mx)) with
        | some r => outP (some r)
        | none => outP (slice3 P t (ev x) (optV ev lo) (optV ev hi) (some (ev mx)) blk)
      | none => none
    | _ => none
  | .fieldAddr s x f => outV (fieldA P s (ev x) f)
  | .field t x f => outV (fieldV P t (ev x) f)
  | .indexAddr t x ix => outP (idxA P t (ev x) (ev ix) blk)
  | .index t x ix => match P.underlying t, ev x with
    | some .string, .s l => outP (idxS l (ev ix))
    | _, _ => none
  | .extract x i => outV (extractA (ev x) i)
  | .build t parts => outV (buildA P t (evParts ev parts.toList))
  | .makeFunc fn first cap => some ⟨[], [], .fn fn (first.toList.map ev) (cap.toList.map ev), []⟩
  | .makeInterface t x => match P.underlying t with
    | some d => if isIfc d then none else some ⟨[], [], .iface t (ev x), []⟩
    | none => none
  | .load t a => loadO P t (ev a) blk
  | .store t a x => storeO P t (ev a) (ev x) blk
  | .alloc e => match an, zeroL P e with
    | .fresh id b, some z => boxO id b z
    | _, _ => none
  | .box _ x => match an with
    | .fresh id b => if notTup (ev x) then boxO id b (vcells (ev x)) else none
    | _ => none
  | .buildSlice t n parts => match an with
    | .fresh id b => buildSliceO P t n (evParts ev parts.toList) id b
    | _ => none
  | .makeSlice t l c => match an with
    | .fresh id b => makeSliceO P t (ev l) (ev c) id b
    | _ => none
  | .call ⟨.builtin b, args, ats⟩ => bltO P b ats.toList (args.toList.map ev) blk an
  | _ => none

/-- The numbers that an annotation takes anew. -/
def An.ids : An → List Nat
  | .auto => []
  | .fresh id _ => [id]
  | .fresh2 a b _ => [a, b]

theorem evParts_length (ev : Operand → V) : ∀ l, (evParts ev l).length = l.length := by
  intro l; induction l with
  | nil => rfl
  | cons p r ih => obtain ⟨i, x⟩ := p; simp [evParts, ih]
theorem evParts_get (ev : Operand → V) : ∀ (l : List (Nat × Operand)) (i : Nat) (h : i < l.length) (h' : i < (evParts ev l).length), (evParts ev l)[i] = ((l[i]).1, ev (l[i]).2) := by
  intro l; induction l with
  | nil => intro i h; simp at h
  | cons p r ih =>
    obtain ⟨j, x⟩ := p
    intro i h h'
    cases i with
    | zero => rfl
    | succ i => simp only [evParts, List.getElem_cons_succ]; exact ih i _ _

/-- An empty block that no world bears. -/
theorem HInv.empty {ρ σ D H F w} (h : HInv ρ σ D H F w) {i} {b : Blk} (hi : σ i = none) (hp : 0 < b.size) :
    HInv ρ (updS σ i ⟨0, 0, b.size⟩) (fun j => D j ∨ j = i) (upd H i (some { b with l := [] })) F w :=
  h.fresh (L := ⟨0, 0, b.size⟩) hi (sameIO.refl w) (fun _ _ => rfl) (fun hc => absurd rfl hc) ⟨rfl, hp, .inl ⟨rfl, rfl⟩⟩

def Done (P : Program) (ρ : Mem) (σ : Sig) (D : Nat → Prop) (H : Heap) (F : Fr) (out : Out) (w : World) (r : Sem Next) : Prop :=
  ∃ val w', (r.run P w = .ok (.value val) w' ∨ (r.run P w = .ok .skip w' ∧ val = undef)) ∧ Fin ρ σ D H F out val w'

section
variable {P : Program} {ρ : Mem} {σ : Sig} {D : Nat → Prop} {H : Heap} {F : Fr} {w : World}

theorem done_v {out : Out} {s : Sem Value} {z w'} (h : s.run P w = .ok z w') (hf : Fin ρ σ D H F out z w') : Done P ρ σ D H F out w (do pure (.value (← s))) :=
  ⟨z, w', .inl (by simp [h]), hf⟩

theorem done_p {s : Sem Value} {v C} (hH : HInv ρ σ D H F w) (h : ∃ z, s.run P w = .ok z w ∧ VR ρ σ v z) : Done P ρ σ D H F ⟨C, [], v, []⟩ w (do pure (.value (← s))) := by
  obtain ⟨z, hz, hv⟩ := h
  exact done_v hz (Fin.pure hH hv)

theorem VRs_args {args : Array Operand} {ev : Operand → V} {a : Act} (h : ∀ x ∈ args.toList, VR ρ σ (ev x) (a.eval x)) : VRs ρ σ (args.toList.map ev) (args.map a.eval) := by
  refine ⟨by simp, fun i hi => ?_⟩
  simp only [Array.size_map] at hi
  simp only [List.getD_eq_getElem?_getD, List.getElem?_map, Array.getElem?_toList, Array.getElem?_eq_getElem hi, Option.map_some, Option.getD_some, Array.getElem_map]
  exact h _ (Array.getElem_mem_toList hi)

theorem two_args {x y : V} {cs : Array Value} (h : VRs ρ σ [x, y] cs) : ∃ a b, cs = #[a, b] ∧ VR ρ σ x a ∧ VR ρ σ y b := by
  obtain ⟨hl, hv⟩ := h
  obtain ⟨l⟩ := cs
  simp only [List.size_toArray] at hl
  match l, hl with
  | [a, b], _ => exact ⟨a, b, rfl, hv 0 (by simp), hv 1 (by simp)⟩
theorem one_arg {x : V} {cs : Array Value} (h : VRs ρ σ [x] cs) : ∃ a, cs = #[a] ∧ VR ρ σ x a := by
  obtain ⟨hl, hv⟩ := h
  obtain ⟨l⟩ := cs
  simp only [List.size_toArray] at hl
  match l, hl with
  | [a], _ => exact ⟨a, rfl, hv 0 (by simp)⟩
theorem head_arg {x : V} {r} {cs : Array Value} (h : VRs ρ σ (x :: r) cs) : ∃ a, cs[0]? = some a ∧ VR ρ σ x a := by
  obtain ⟨hl, hv⟩ := h
  have : 0 < cs.size := by rw [← hl]; simp
  exact ⟨cs[0], Array.getElem?_eq_getElem this, hv 0 this⟩

theorem bltO_ok {b : Builtin} {ats : Array TypeId} {args : List V} {cs : Array Value} {an out ty consts} (h : bltO P b ats.toList args H an = some out) (hC : allP out.C) (hS : allS out.S)
    (hH : HInv ρ σ D H F w) (hid : ∀ i ∈ an.ids, σ i = none) (hn : an.ids.Nodup) (hx : VRs ρ σ args cs) : Done P ρ σ D H F out w (builtin b ats ty consts cs) := by
  unfold bltO at h
  split at h
  · rename_i t ts x r hats
    have h0 : ats[0]? = some t := by rw [← Array.getElem?_toList, hats]; rfl
    unfold outV at h
    split at h
    · rename_i v hv
      cases h
      obtain ⟨a, ha, hva⟩ := head_arg hx
      exact done_p hH (lenA_ok hv h0 ha hva w)
    · cases h
  · unfold outV at h
    split at h
    · rename_i v hv
      cases h
      exact done_p hH (minA_ok hv hx.1 hx.2 ats ty w)
    · cases h
  · unfold outV at h
    split at h
    · rename_i v hv
      cases h
      exact done_p hH (maxA_ok hv hx.1 hx.2 ats ty w)
    · cases h
  · rename_i t tx ts x y hats
    have h0 : ats[0]? = some t := by rw [← Array.getElem?_toList, hats]; rfl
    have h1 : ats[1]? = some tx := by rw [← Array.getElem?_toList, hats]; rfl
    obtain ⟨a, c, rfl, hva, hvc⟩ := two_args hx
    split at h
    · rename_i d hd
      split at h
      · cases h
      · rename_i hnd
        have hnd' : isIntD d = false := by simpa using hnd
        split at h
        · rename_i id0 id b0
          have hi0 := hid id0 (by simp [An.ids])
          have hi1 := hid id (by simp [An.ids])
          have hne : id ≠ id0 := by simp [An.ids] at hn; exact fun e => hn e.symm
          split at h
          case isFalse => cases h
          rename_i hxn
          simp only [Bool.and_eq_true, Nat.ble_eq] at hxn
          obtain ⟨hxn, hp⟩ := hxn
          cases x <;> simp [isNils] at hxn
          cases hva
          rename_i base
          have hH' := hH.empty (i := id0) (b := b0) hi0 hp
          have hs0 := leS_updS (i := id0) (L := ⟨0, 0, b0.size⟩) hi0
          obtain ⟨z, w', hz, hf⟩ := appendO_ok (ty := ty) h hC hS hH' (by simp [updS, hne, hi1]) (.sl (L := ⟨0, 0, b0.size⟩) (a := base) (cap := 0) (by simp [updS]) (Nat.le_refl _) (by omega)) (hvc.mono (leM.refl _) hs0) h0 h1 hd hnd'
          refine done_v hz ?_
          obtain ⟨σ', hf1, hf2, hf3⟩ := hf
          refine ⟨σ', hf1, hs0.trans hf2, ?_⟩
          have hwr : ∃ q, out.wr = [(id0, none), (id, q)] := by
            unfold appendO at h
            split at h
            · rename_i e id' off n hu hx'
              cases hx'
              split at h
              · split at h
                · cases h; exact ⟨_, rfl⟩
                · cases h
              · cases h
            · cases h
          obtain ⟨q, hq⟩ := hwr
          have e1 : applyW out.wr (upd H id0 (some { b0 with l := [] })) = applyW out.wr H := by
            rw [hq]
            funext k
            simp only [applyW, List.foldl_cons, List.foldl_nil, upd]
            split
            · rfl
            · split <;> rfl
          rw [e1] at hf3
          exact hf3.wider (fun k hk => by
            rw [hq] at hk ⊢
            rcases hk with (hk | hk) | hk
            · exact .inl hk
            · exact .inr (by simp [hk])
            · exact .inr hk)
        · rename_i id b0
          obtain ⟨z, w', hz, hf⟩ := appendO_ok (ty := ty) h hC hS hH (hid id (by simp [An.ids])) hva hvc h0 h1 hd hnd'
          exact done_v hz hf
        · cases h
    · cases h
  · rename_i t ts x y hats
    have h0 : ats[0]? = some t := by rw [← Array.getElem?_toList, hats]; rfl
    obtain ⟨a, c, rfl, hva, hvc⟩ := two_args hx
    obtain ⟨z, w', hz, hf⟩ := copyO_ok (ty := ty) h hC hS hH hva hvc h0
    exact done_v hz hf
  · rename_i t ts x hats
    have h0 : ats[0]? = some t := by rw [← Array.getElem?_toList, hats]; rfl
    obtain ⟨a, rfl, hva⟩ := one_arg hx
    obtain ⟨z, w', hz, hf⟩ := clearO_ok (ty := ty) h hC hS hH hva h0
    exact done_v hz hf
  · cases h
end

end Go.Proofs.YtiekchfipaiflaaGreatDoor
