/- append, copy, clear; texts of bytes and of signs. -/
import Derived.Test.YtiekchfipaiflaaGreatDoorLi
namespace Go.Proofs.YtiekchfipaiflaaGreatDoor
open Go

/-- What stands in a slice, element by element, as cells. -/
structure Src : Type 1 where
  α : Type
  size : Nat
  enc : α → List V
  l : List α
def Src.es (s : Src) : List (List V) := s.l.map s.enc
def elemsOf (x : V) (blk : Nat → Option Blk) : Option (List Prop × Src) :=
  match x with
  | .sl id off n => match blk id with
    | some b => some ([off + n ≤ b.l.length], ⟨b.α, b.size, b.enc, (b.l.drop off).take n⟩)
    | none => none
  | .ro α size enc _ l => some ([], ⟨α, size, enc, l⟩)
  | .s l => some ([], ⟨Int, 1, fun c => [.i .u8 c], l⟩)
  | _ => none

def putAt {α : Type} (l : List α) (off : Nat) (xs : List α) : List α := l.take off ++ (xs ++ l.drop (off + xs.length))

theorem putAt_length {α : Type} (l : List α) (off : Nat) (xs : List α) (h : off + xs.length ≤ l.length) : (putAt l off xs).length = l.length := by
  unfold putAt; simp; omega
theorem putAt_getD {α : Type} (l : List α) (off : Nat) (xs : List α) (d : α) (h : off + xs.length ≤ l.length) (j : Nat) :
    (putAt l off xs).getD j d = if off ≤ j ∧ j < off + xs.length then xs.getD (j - off) d else l.getD j d := by
  unfold putAt
  simp only [List.getD_eq_getElem?_getD]
  congr 1
  rw [List.getElem?_append]
  simp only [List.length_take, Nat.min_eq_left (show off ≤ l.length by omega)]
  by_cases h1 : j < off
  · rw [if_pos h1, if_neg (by omega), List.getElem?_take, if_pos h1]
  · rw [if_neg h1, List.getElem?_append]
    by_cases h2 : j - off < xs.length
    · rw [if_pos h2, if_pos (by omega)]
    · rw [if_neg h2, if_neg (by omega), List.getElem?_drop]
      congr 1
      rw [show off + xs.length + (j - off - xs.length) = j by omega]

/-- The cells of the first m elements of a slice, as the model loads them. -/
theorem firstCells_ok {ρ σ D H F w P x a C src size} (h : elemsOf x H = some (C, src)) (hsize : src.size = size) (hC : allP C) (hH : HInv ρ σ D H F w) (hx : VR ρ σ x a) (hsz : 0 < size) {m : Nat} (hm : m ≤ src.es.length) :
    ∃ cs, (Builtin.firstCells size m a).run P w = .ok cs w ∧ cs.size = m * size ∧
      ∀ k, k < m → ∀ j, j < size → ∃ y, cs[k * size + j]? = some y ∧ VR ρ σ ((src.es.getD k []).getD j .u) y := by
  subst hsize
  have hlt : ∀ {k j : Nat}, k < m → j < src.size → k * src.size + j < m * src.size := by
    intro k j hk hj
    have : (k + 1) * src.size ≤ m * src.size := Nat.mul_le_mul_right _ hk
    rw [Nat.add_mul, Nat.one_mul] at this; omega
  by_cases hm0 : m = 0
  · subst hm0
    unfold elemsOf at h
    split at h
    · cases hx
      rename_i L a0 cap hL hc hl
      cases a0 with
      | none => exact ⟨#[], rfl, by simp, fun k hk => by omega⟩
      | some a0 => exact ⟨#[], by simp [Builtin.firstCells, loadCells, loadCellsFrom], by simp, fun k hk => by omega⟩
    · cases hx
      rename_i a0 cap g hl hrd hv
      cases a0 with
      | none => exact ⟨#[], rfl, by simp, fun k hk => by omega⟩
      | some a0 => exact ⟨#[], by simp [Builtin.firstCells, loadCells, loadCellsFrom], by simp, fun k hk => by omega⟩
    · cases hx
      rename_i s hs
      exact ⟨_, rfl, by simp [ByteArray.size], fun k hk => by omega⟩
    · cases h
  · unfold elemsOf at h
    split at h
    · rename_i id off n
      split at h
      · rename_i b hb
        cases h
        simp only [Src.es, List.length_map, List.length_take, List.length_drop] at hm hlt hsz ⊢
        have hbnd : off + n ≤ b.l.length := hC.1
        cases hx
        rename_i L a0 cap hL hc hl
        obtain ⟨M, hM, hB⟩ := hH.blk _ _ hb
        rw [hL] at hM; cases hM
        obtain ⟨hes, hpos, hcase⟩ := hB
        have hn : m ≤ n := by omega
        obtain ⟨ha, hcap⟩ := hc (by omega)
        subst ha
        rcases hcase with ⟨_, hnil⟩ | ⟨c, ty, fz, hw, hcs, hle, _, hcell⟩
        · rw [hnil] at hbnd; simp at hbnd; omega
        · have hb2 : off * L.es + m * b.size ≤ c.size := by
            have : (off + m) * b.size ≤ b.l.length * b.size := Nat.mul_le_mul_right _ (by omega)
            rw [Nat.add_mul] at this; rw [hes]; omega
          refine ⟨c.extract (off * L.es) (off * L.es + m * b.size), by simp only [Builtin.firstCells]; exact run_loadCells hw hb2, by simp; omega, fun k hk j hj => ?_⟩
          obtain ⟨y, hy, hv⟩ := hcell (off + k) (by omega) j hj
          refine ⟨y, ?_, ?_⟩
          · rw [Array.getElem?_extract]
            have := hlt hk hj
            rw [if_pos (by omega), ← hy, hes]
            congr 1
            rw [Nat.add_mul]; omega
          · have e : (((b.l.drop off).take n).map b.enc).getD k [] = b.enc (b.l.getD (off + k) b.d) := by
              have : off + k < b.l.length := by omega
              simp [List.getD_eq_getElem?_getD, List.getElem?_take, show k < n by omega, this]
            rw [e]; exact hv
      · cases h
    · rename_i α size enc d l
      cases h
      simp only [Src.es, List.length_map] at hm hlt hsz ⊢
      cases hx
      rename_i a0 cap g hl hrd hv
      have h00 := hrd 0 (by omega) 0 hsz
      cases a0 with
      | none => simp [rd] at h00
      | some a0 =>
        obtain ⟨r, off, sp⟩ := a0
        cases sp with
        | some _ => simp [rd] at h00
        | none =>
          unfold rd at h00
          simp only at h00
          split at h00
          · rename_i c ty fz hρ
            have hw := hH.rmem _ _ hρ
            have hcell : ∀ k, k < m → ∀ j, j < size → c[off + (k * size + j)]? = some (g k j) := by
              intro k hk j hj
              have := hrd k (by omega) j hj
              unfold rd at this
              simpa only [hρ] using this
            have hb2 : off + m * size ≤ c.size := by
              have h1 := hcell (m - 1) (by omega) (size - 1) (by omega)
              have h2 := (Array.getElem?_eq_some_iff.1 h1).1
              have : (m - 1 + 1) * size = m * size := by rw [show m - 1 + 1 = m by omega]
              rw [Nat.add_mul, Nat.one_mul] at this; omega
            refine ⟨c.extract off (off + m * size), by simp only [Builtin.firstCells]; exact run_loadCells hw hb2, by simp; omega, fun k hk j hj => ?_⟩
            refine ⟨g k j, ?_, ?_⟩
            · rw [Array.getElem?_extract]
              have := hlt hk hj
              rw [if_pos (by omega)]; exact hcell k hk j hj
            · have e : (l.map enc).getD k [] = enc (l.getD k d) := by
                have : k < l.length := by omega
                simp [List.getD_eq_getElem?_getD, this]
              rw [e]; exact (hv k (by omega) j hj).of_no
          · cases h00
    · rename_i l
      cases h
      simp only [Src.es, List.length_map] at hm hlt hsz ⊢
      cases hx
      rename_i s hs
      have hsl : l.length = s.data.size := by rw [← hs]; simp
      refine ⟨_, rfl, by simp only [Array.size_map, ByteArray.data_extract, Array.size_extract]; omega, fun k hk j hj => ?_⟩
      have hj0 : j = 0 := by omega
      subst hj0
      have hk' : k < s.data.size := by omega
      refine ⟨.int .u8 ((s.data[k]).toNat : Int), ?_, ?_⟩
      · simp only [Nat.mul_one, Nat.add_zero, Array.getElem?_map, ByteArray.data_extract, Array.getElem?_extract, Nat.zero_add, Nat.sub_zero]
        rw [if_pos (by omega), Array.getElem?_eq_getElem hk']; rfl
      · have e : (l.map fun c => [V.i .u8 c]).getD k [] = [.i .u8 ((s.data[k]).toNat : Int)] := by
          rw [← hs]
          simp only [List.getD_eq_getElem?_getD, List.getElem?_map, Array.getElem?_toList, Array.getElem?_eq_getElem hk', Option.map_some, Option.getD_some]
        rw [e]
        refine .i (.inr ?_)
        have := (s.data[k]).toNat_lt
        constructor <;> simp [IntKind.min, IntKind.max, IntKind.signed, IntKind.bits] <;> omega
    · cases h

theorem lenOf_ok {ρ σ x a blk C src} (h : elemsOf x blk = some (C, src)) (hC : allP C) (hx : VR ρ σ x a) (P : Program) (w : World) : (Builtin.lenOf a).run P w = .ok src.es.length w := by
  unfold elemsOf at h
  split at h
  · split at h
    · cases h; cases hx
      have := hC.1
      simp only [Builtin.lenOf, Sem.run_pure, Src.es, List.length_map, List.length_take, List.length_drop]
      congr 1; omega
    · cases h
  · cases h; cases hx; simp [Builtin.lenOf, Src.es]
  · cases h; cases hx
    rename_i s hs
    simp only [Builtin.lenOf, Sem.run_pure, Src.es, List.length_map]
    congr 1
    have e : s.size = s.data.size := rfl
    rw [← hs, e]; simp
  · cases h

theorem nextcap_le {need old : Nat} (h : old < need) : Builtin.nextslicecap need old ≤ 2 * need := by
  have grow : ∀ (r c : Nat), 256 ≤ c → c < need → Builtin.growBy need r c ≤ 2 * need := by
    intro r
    induction r with
    | zero => intro c _ hc; simp only [Builtin.growBy]; omega
    | succ r ih =>
      intro c h0 hc
      simp only [Builtin.growBy]
      rw [if_neg (by omega)]
      by_cases h1 : c + (c + 768) / 4 < need
      · exact ih _ (by omega) h1
      · cases r with
        | zero => simp only [Builtin.growBy]; omega
        | succ r => simp only [Builtin.growBy]; rw [if_pos (by omega)]; omega
  unfold Builtin.nextslicecap
  split
  · omega
  · split
    · omega
    · exact grow 4 old (by omega) h

/-- Each element is of scalars, so many. -/
def scalS (s : Src) : List V × List V := (s.l.map fun y => .agg ((s.enc y).map fun v => .b (scal v)), s.l.map fun _ => .agg (List.replicate s.size (.b true)))
theorem scalS_ok {s : Src} (h : (scalS s).1 = (scalS s).2) : ∀ vs ∈ s.es, vs.length = s.size ∧ ∀ j, j < s.size → scal (vs.getD j .u) = true := by
  intro vs hvs
  obtain ⟨y, hy, rfl⟩ := List.mem_map.1 hvs
  have := List.map_inj_left.1 h y hy
  injection this with this
  have hl : (s.enc y).length = s.size := by simpa using congrArg List.length this
  refine ⟨hl, fun j hj => ?_⟩
  have h2 := congrArg (fun l => l.getD j .u) this
  have hj' : j < (s.enc y).length := by omega
  simp only [List.getD_eq_getElem?_getD, List.getElem?_map, List.getElem?_eq_getElem hj', Option.map_some, Option.getD_some, List.getElem?_replicate, hj, if_true] at h2
  simp only [List.getD_eq_getElem?_getD, List.getElem?_eq_getElem hj', Option.getD_some]
  injection h2
/-- The elements may stand in a block of that kind. -/
def fitS (s : Src) (b : Blk) : List V × List V := (s.l.map fun y => .agg (b.enc (b.dec (s.enc y))), s.l.map fun y => .agg (s.enc y))
theorem fitS_ok {s : Src} {b : Blk} (h : (fitS s b).1 = (fitS s b).2) : ∀ vs ∈ s.es, b.enc (b.dec vs) = vs := by
  intro vs hvs
  obtain ⟨y, hy, rfl⟩ := List.mem_map.1 hvs
  have := List.map_inj_left.1 h y hy
  injection this
def Src.to (s : Src) (b : Blk) : List b.α := s.l.map fun y => b.dec (s.enc y)
theorem to_eq (s : Src) (b : Blk) : s.to b = s.es.map b.dec := by simp [Src.to, Src.es]

/-- append: the base's block is let go, a new one bears all. -/
def appendO (P : Program) (t : TypeId) (x y : V) (blk : Nat → Option Blk) (fid : Nat) : Option Out :=
  match P.underlying t, x with
  | some (.slice e), .sl id off n => match P.info? e, zeroL P e, blk id, elemsOf y blk with
    | some i, some z, some b, some (C, s) =>
      if off == 0 && i.size == b.size && z.length == b.size && s.size == b.size && Nat.ble 1 i.bytes then
        some ⟨(n = b.l.length) :: ((((n + s.l.length) * i.bytes : Nat) : Int) ≤ 140737488355328) :: C, [fitS s b, scalS s], .sl fid 0 (n + s.l.length),
          [(id, none), (fid, some { b with l := b.l ++ s.to b })]⟩
      else none
    | _, _, _, _ => none
  | _, _ => none

theorem append_getD {α : Type} (l r : List α) (d : α) (k : Nat) : (l ++ r).getD k d = if k < l.length then l.getD k d else r.getD (k - l.length) d := by
  simp only [List.getD_eq_getElem?_getD]
  by_cases h : k < l.length
  · rw [if_pos h, List.getElem?_append_left h]
  · rw [if_neg h, List.getElem?_append_right (by omega)]

theorem map_dec_getD {b : Blk} {es : List (List V)} {k : Nat} (hk : k < es.length) : (es.map b.dec).getD k b.d = b.dec (es.getD k []) := by
  simp [List.getD_eq_getElem?_getD, hk]
theorem getD_mem {es : List (List V)} {k : Nat} (hk : k < es.length) : es.getD k [] ∈ es := by
  have : es.getD k [] = es[k] := by simp [List.getD_eq_getElem?_getD, hk]
  rw [this]; exact List.getElem_mem hk

def isIntD : TypeDesc → Bool
  | .int _ => true
  | _ => false

section
variable {P : Program} {t tx e : TypeId} {d : TypeDesc} {i : TypeInfo} {ats : Array TypeId} {ty : TypeId} {base : Option Addr} {n cap m : Nat} {c : Value} {w : World}
theorem append_in (h0 : ats[0]? = some t) (h1 : ats[1]? = some tx)
    (hut : P.underlying t = some (.slice e)) (hi : P.info? e = some i) (hu : P.underlying tx = some d) (hd : isIntD d = false)
    (hl : (Builtin.lenOf c).run P w = .ok m w) (hm : n + m ≤ cap) :
    (Builtin.append_ ats ty #[.slice base n cap, c]).run P w = ((do
      let new ← Builtin.firstCells i.size m c
      if let some a := base then storeCells (a.add (n * i.size)) new.toList
      pure (.slice base (n + m) cap)) : Sem Value).run P w := by
  cases d <;> first | (simp [isIntD] at hd; done) | (
    simp only [Builtin.append_, h0, h1, List.getElem?_toArray, List.getElem?_cons_zero, List.getElem?_cons_succ, Sem.run_bind, run_underlying hut, run_underlying hu, Result.andThen_ok, run_sizeOf hi, Sem.run_pure, Bool.not_false, if_true, Bool.false_eq_true, if_false, hl, if_pos hm]
    first | done | (cases base <;> rfl))

theorem append_new (h0 : ats[0]? = some t) (h1 : ats[1]? = some tx)
    (hut : P.underlying t = some (.slice e)) (hi : P.info? e = some i) (hu : P.underlying tx = some d) (hd : isIntD d = false)
    (hl : (Builtin.lenOf c).run P w = .ok m w) (hm : ¬ n + m ≤ cap) (hb : i.bytes ≠ 0) (hc : ¬ Builtin.nextslicecap (n + m) cap * i.bytes > 2 ^ 48) :
    (Builtin.append_ ats ty #[.slice base n cap, c]).run P w = ((do
      let newCap ← choose (.appendCap (n + m) cap e)
      let old ← Builtin.firstCells i.size n (.slice base n cap)
      let new ← Builtin.firstCells i.size m c
      let rest := Builtin.zeroCells (← zeroValue e).cells (newCap - (n + m))
      pure (.slice (some (← newRow e (old ++ new ++ rest))) (n + m) newCap)) : Sem Value).run P w := by
  cases d <;> first | (simp [isIntD] at hd; done) | (
    simp only [Builtin.append_, h0, h1, List.getElem?_toArray, List.getElem?_cons_zero, List.getElem?_cons_succ, Sem.run_bind, run_underlying hut, run_underlying hu, Result.andThen_ok, run_sizeOf hi, Sem.run_pure, Bool.not_false, if_true, Bool.false_eq_true, if_false, hl, if_neg hm, run_typeInfo hi, hb, or_self, and_false, if_neg hc, run_askRoom]
    first | done | rfl)
end

theorem app_cells {ρ σ} {b : Blk} {l : List (List V)} {es : List (List V)} {c : Array Value} {n : Nat} (hes : ∀ vs ∈ es, b.enc (b.dec vs) = vs) (hn : n = b.l.length)
    (h1 : ∀ k, k < n → ∀ j, j < b.size → ∃ x, c[k * b.size + j]? = some x ∧ VR ρ σ ((b.enc (b.l.getD k b.d)).getD j .u) x)
    (h2 : ∀ k, k < es.length → ∀ j, j < b.size → ∃ x, c[(n + k) * b.size + j]? = some x ∧ VR ρ σ ((es.getD k []).getD j .u) x) :
    ∀ k, k < (b.l ++ es.map b.dec).length → ∀ j, j < b.size → ∃ x, c[k * b.size + j]? = some x ∧ VR ρ σ ((b.enc ((b.l ++ es.map b.dec).getD k b.d)).getD j .u) x := by
  intro k hk j hj
  simp only [List.length_append, List.length_map] at hk
  rw [append_getD]
  by_cases hlt : k < b.l.length
  · rw [if_pos hlt]; exact h1 k (by omega) j hj
  · rw [if_neg hlt]
    have hk' : k - b.l.length < es.length := by omega
    rw [map_dec_getD hk', hes _ (getD_mem hk')]
    have := h2 (k - b.l.length) hk' j hj
    rw [show n + (k - b.l.length) = k by omega] at this
    exact this

theorem HInv.drop1 {ρ σ D H F w} (h : HInv ρ σ D H F w) (i : Nat) : HInv ρ σ D (upd H i none) F w :=
  h.drop fun j b hj => by
    by_cases e : j = i
    · subst e; rw [upd_same] at hj; cases hj
    · rwa [upd_ne _ _ _ e] at hj

/-- A block gets a second number, the first one is let go. -/
theorem HInv.rename {ρ σ D H F w} (h : HInv ρ σ D H F w) {i j b L} (hb : H i = some b) (hL : σ i = some L) (hj : σ j = none) :
    HInv ρ (updS σ j L) (fun k => D k ∨ k = j) (upd (upd H i none) j (some b)) F w := by
  have hij : i ≠ j := by intro e; subst e; rw [hL] at hj; cases hj
  have old : ∀ {k M}, k ≠ j → updS σ j L k = some M → σ k = some M := by intro k M e hM; simpa [updS, e] using hM
  have new : ∀ {M}, updS σ j L j = some M → M = L := by intro M hM; simpa [updS, eq_comm] using hM
  have ho : ∀ {k c}, k ≠ j → upd (upd H i none) j (some b) k = some c → k ≠ i ∧ H k = some c := by
    intro k c e hk
    rw [upd_ne _ _ _ e] at hk
    by_cases e' : k = i
    · subst e'; rw [upd_same] at hk; cases hk
    · rw [upd_ne _ _ _ e'] at hk; exact ⟨e', hk⟩
  refine ⟨?_, ?_, ?_, h.frame, h.rmem, ?_, h.io⟩
  · intro k M hk
    by_cases e : k = j
    · exact .inr e
    · exact .inl (h.dom k M (old e hk))
  · intro k c hk
    by_cases e : k = j
    · subst e; rw [upd_same] at hk; cases hk
      obtain ⟨M, hM, hB⟩ := h.blk i b hb
      rw [hL] at hM; cases hM
      exact ⟨L, by simp [updS], hB.mono (leM.refl _) (leS_updS hj)⟩
    · obtain ⟨_, hk'⟩ := ho e hk
      obtain ⟨M, hM, hB⟩ := h.blk k c hk'
      exact ⟨M, by simpa [updS, e] using hM, hB.mono (leM.refl _) (leS_updS hj)⟩
  · intro k l c d M N hk hl hM hN hkl hm hn
    by_cases e : k = j
    · subst e
      have := new hM; subst this
      have el : l ≠ k := fun e => hkl e.symm
      obtain ⟨hli, hl'⟩ := ho el hl
      exact h.inj i l b d _ N hb hl' hL (old el hN) (fun e => hli e.symm) hm hn
    · obtain ⟨hki, hk'⟩ := ho e hk
      by_cases e' : l = j
      · subst e'
        have := new hN; subst this
        exact h.inj k i c b M _ hk' hb (old e hM) hL hki hm hn
      · obtain ⟨hli, hl'⟩ := ho e' hl
        exact h.inj k l c d M N hk' hl' (old e hM) (old e' hN) hkl hm hn
  · intro k c M hk hM hm
    by_cases e : k = j
    · subst e
      have := new hM; subst this
      exact h.apart i b _ hb hL hm
    · obtain ⟨_, hk'⟩ := ho e hk
      exact h.apart k c M hk' (old e hM) hm

theorem appendO_ok {ρ σ D H F w P t tx x y fid out} {a c : Value} {d} {ty : TypeId} {ats : Array TypeId} (h : appendO P t x y H fid = some out) (hC : allP out.C) (hS : allS out.S)
    (hH : HInv ρ σ D H F w) (hid : σ fid = none) (hx : VR ρ σ x a) (hy : VR ρ σ y c) (h0 : ats[0]? = some t) (h1 : ats[1]? = some tx)
    (hu : P.underlying tx = some d) (hd : isIntD d = false) :
    ∃ z w', (Builtin.append_ ats ty #[a, c]).run P w = .ok z w' ∧ Fin ρ σ D H F out z w' := by
  unfold appendO at h
  split at h
  · rename_i e id off n hut
    split at h
    · rename_i i zl b C s hi hzl hb hel
      split at h
      · rename_i hk
        cases h
        simp only [Bool.and_eq_true, beq_iff_eq, Nat.ble_eq] at hk
        obtain ⟨⟨⟨⟨hk1, hk2⟩, hk3⟩, hk4⟩, hk5⟩ := hk
        subst hk1
        obtain ⟨i', zv, hi', hz, rfl⟩ := zeroL_some hzl
        rw [hi] at hi'; cases hi'
        obtain ⟨hc1, hc2, hc3⟩ := hC
        have hS' := fitS_ok hS.1
        have hS2 := scalS_ok hS.2.1
        have hlE : s.l.length = s.es.length := by simp [Src.es]
        simp only [hlE, to_eq] at *
        generalize hes0 : s.es = es at *
        cases hx
        rename_i L a0 cap hL hcc hl
        obtain ⟨M, hM, hB⟩ := hH.blk _ _ hb
        rw [hL] at hM; cases hM
        obtain ⟨hes, hpos, hcase⟩ := hB
        have hlen := lenOf_ok hel hc3 hy P w
        rw [hes0] at hlen
        have hmul : ∀ {p q : Nat}, p ≤ q → p * b.size ≤ q * b.size := fun h => Nat.mul_le_mul_right _ h
        have hne : fid ≠ id := by intro e; subst e; rw [hL] at hid; cases hid
        by_cases hfit : n + es.length ≤ cap
        · rw [append_in h0 h1 hut hi hu hd hlen hfit]
          obtain ⟨cs, hcs, hcsz, hcc2⟩ := firstCells_ok (P := P) hel hk4 hc3 hH hy hpos (m := es.length) (by rw [hes0]; exact Nat.le_refl _)
          rw [hes0] at hcc2
          simp only [Sem.run_bind, hk2, hcs, Result.andThen_ok]
          by_cases hcap0 : cap = 0
          · have hn0 : n = 0 := by omega
            have he0 : es.length = 0 := by omega
            have hes0 : es = [] := List.eq_nil_of_length_eq_zero he0
            subst hes0
            have hcs0 : cs = #[] := by
              apply Array.eq_empty_of_size_eq_zero; rw [hcsz]; simp
            subst hcs0
            have hbl : b.l = [] := List.eq_nil_of_length_eq_zero (by omega)
            have hren := hH.rename hb hL hid
            refine ⟨.slice a0 (n + 0) cap, w, ?_, updS σ fid L, .sl (L := L) (by simp [updS]) (by simpa using hl) (by omega), leS_updS hid, ?_⟩
            · cases a0 with
              | none => rfl
              | some a0 => rfl
            · have e : ({ b with l := b.l ++ ([] : List (List V)).map b.dec } : Blk) = b := by simp
              rw [show applyW [(id, none), (fid, some { b with l := b.l ++ ([] : List (List V)).map b.dec })] H = upd (upd H id none) fid (some b) by rw [e]; rfl]
              exact hren.wider (fun k hk => by rcases hk with hk | hk <;> simp [hk])
          · obtain ⟨ha, hcap⟩ := hcc (by omega)
            subst ha
            have hLcap : L.cap ≠ 0 := by
              intro e0
              rw [e0] at hcap
              have : (0 + cap) * L.es = 0 := by omega
              rcases Nat.mul_eq_zero.1 this with h | h <;> omega
            rcases hcase with ⟨hc0, _⟩ | ⟨c0, ty0, fz, hw, hc0s, hle, hfz, hcell⟩
            · exact absurd hc0 hLcap
            · have hbig : n * b.size + es.length * b.size ≤ c0.size := by
                have : (n + es.length) * b.size ≤ cap * b.size := hmul hfit
                rw [Nat.add_mul] at this
                rw [hes, Nat.zero_add] at hcap; omega
              obtain ⟨w', c', hr, ho, hw', hsz', hcs', hk'⟩ := run_storeCells (P := P) (r := L.r) (off := n * b.size) (t := ty0) (fz := fz) cs.toList 0 w c0 hw hfz.out (by simp [hcsz]; omega) (by
                intro v hv
                obtain ⟨q, hq, rfl⟩ := List.getElem_of_mem hv
                simp only [Array.length_toList] at hq
                simp only [Array.getElem_toList]
                have hq1 : q / b.size < es.length := by
                  rw [hcsz] at hq
                  exact Nat.div_lt_of_lt_mul (by rw [Nat.mul_comm]; exact hq)
                have hq2 : q % b.size < b.size := Nat.mod_lt _ hpos
                obtain ⟨y, hy1, hy2⟩ := hcc2 _ hq1 _ hq2
                rw [show q / b.size * b.size + q % b.size = q from Nat.div_add_mod' q b.size] at hy1
                rw [Array.getElem?_eq_getElem hq] at hy1
                cases hy1
                exact scal_cell hy2 ((hS2 _ (getD_mem hq1)).2 _ (by rw [hk4]; exact hq2)))
              refine ⟨.slice (some ⟨L.r, 0 * L.es, none⟩) (n + es.length) cap, w', ?_, updS σ fid L, .sl (L := L) (by simp [updS]) hfit (fun _ => ⟨rfl, hcap⟩), leS_updS hid, ?_⟩
              · simp only [Sem.run_bind, add_at, Nat.zero_mul, Nat.zero_add]
                rw [hr]; rfl
              · have hren := hH.rename hb hL hid
                have hL' : updS σ fid L fid = some L := by simp [updS]
                have hwr := hren.write (b' := { b with l := b.l ++ es.map b.dec }) (upd_same _ _ _) hL' hLcap ho.1 ho.2 ⟨hes, hpos, .inr ⟨c', ty0, fz, hw', by rw [hcs']; exact hc0s, by
                  simp only [List.length_append, List.length_map]; rw [Nat.add_mul, hcs', ← hc1]; exact hbig, by rw [hcs']; exact hfz, ?_⟩⟩
                · have e : upd (upd (upd H id none) fid (some b)) fid (some { b with l := b.l ++ es.map b.dec }) = applyW [(id, none), (fid, some { b with l := b.l ++ es.map b.dec })] H := by
                    funext k; simp only [applyW, List.foldl_cons, List.foldl_nil, upd]; split <;> rfl
                  rw [e] at hwr
                  exact hwr.wider (fun k hk => by rcases hk with hk | hk <;> simp [hk])
                · refine app_cells (l := []) hS' hc1 (fun k hk j hj => ?_) (fun k hk j hj => ?_)
                  · obtain ⟨x, hx1, hx2⟩ := hcell k (by omega) j hj
                    refine ⟨x, ?_, hx2.mono (leM.refl _) (leS_updS hid)⟩
                    rw [hk', if_neg ?_]
                    · exact hx1
                    · have := hmul (show k + 1 ≤ n by omega)
                      rw [Nat.add_mul, Nat.one_mul] at this; omega
                  · obtain ⟨y, hy1, hy2⟩ := hcc2 k hk j hj
                    refine ⟨y, ?_, hy2.mono (leM.refl _) (leS_updS hid)⟩
                    have := hmul (show k + 1 ≤ es.length by omega)
                    rw [Nat.add_mul, Nat.one_mul] at this
                    rw [hk', Nat.add_mul, if_pos (by simp only [Array.length_toList, hcsz]; omega)]
                    rw [show n * b.size + k * b.size + j - (n * b.size + 0) = k * b.size + j by omega]
                    simpa using hy1
        · have hbytes : i.bytes ≠ 0 := by omega
          have hnc : ¬ Builtin.nextslicecap (n + es.length) cap * i.bytes > 2 ^ 48 := by
            have h1 := nextcap_le (need := n + es.length) (old := cap) (by omega)
            have h2 : Builtin.nextslicecap (n + es.length) cap * i.bytes ≤ 2 * (n + es.length) * i.bytes := Nat.mul_le_mul_right _ h1
            rw [Nat.mul_assoc] at h2
            have h3 : (n + es.length) * i.bytes ≤ 140737488355328 := by
              have h := hc2
              rw [show (140737488355328 : Int) = ((140737488355328 : Nat) : Int) from rfl] at h
              exact Int.ofNat_le.1 h
            omega
          rw [append_new h0 h1 hut hi hu hd hlen hfit hbytes hnc]
          have hq : ∀ q w, (choose (.appendCap (n + es.length) cap e)).run P w = .ok (n + es.length + q) { w with drawn := w.drawn + 1 } ∨ True := fun _ _ => .inr trivial
          clear hq
          simp only [Sem.run_bind, run_choose, show Question.forced (.appendCap (n + es.length) cap e) = false from rfl, Bool.false_eq_true, if_false, Result.andThen_ok]
          generalize hnew : (Question.appendCap (n + es.length) cap e).cut (w.tape w.drawn (.appendCap (n + es.length) cap e)) = newCap
          have hge : n + es.length ≤ newCap := by rw [← hnew]; exact Nat.le_add_right _ _
          have hH1 : HInv ρ σ D H F { w with drawn := w.drawn + 1 } := hH.world ⟨rfl, rfl⟩ (fun _ _ => rfl)
          have helx : elemsOf (.sl id 0 n) H = some ([0 + n ≤ b.l.length], ⟨b.α, b.size, b.enc, (b.l.drop 0).take n⟩) := by simp only [elemsOf, hb]
          obtain ⟨old, ho1, ho2, ho3⟩ := firstCells_ok (P := P) (a := .slice a0 n cap) helx rfl ⟨by omega, trivial⟩ hH1 (.sl hL hl hcc) hpos (m := n) (by simp [Src.es]; omega)
          obtain ⟨new, hn1, hn2, hn3⟩ := firstCells_ok (P := P) hel hk4 hc3 hH1 hy hpos (m := es.length) (by rw [hes0]; exact Nat.le_refl _)
          rw [hes0] at hn3
          rw [← hk2] at ho1 hn1
          rw [ho1]
          simp only [Result.andThen_ok]
          rw [hn1]
          simp only [Result.andThen_ok, run_zeroValue hi hz, newRow, Sem.run_bind, run_newObj, Sem.run_pure]
          have hzc : zv.cells.size = b.size := by
            have := (toV_cells zv (ρ := ρ) (σ := σ)).1
            omega
          have hrest : (Builtin.zeroCells zv.cells (newCap - (n + es.length))).size = (newCap - (n + es.length)) * b.size := by
            simp [Builtin.zeroCells, hzc]
          generalize hcsd : old ++ new ++ Builtin.zeroCells zv.cells (newCap - (n + es.length)) = cs
          have hcs : cs.size = newCap * b.size := by
            rw [← hcsd]
            simp only [Array.size_append, ho2, hn2, hrest]
            rw [← Nat.add_mul, ← Nat.add_mul]; congr 1; omega
          have hcell : ∀ k, k < (b.l ++ es.map b.dec).length → ∀ j, j < b.size → ∃ x, cs[k * b.size + j]? = some x ∧ VR ρ σ ((b.enc ((b.l ++ es.map b.dec).getD k b.d)).getD j .u) x := by
            refine app_cells (l := []) hS' hc1 (fun k hk j hj => ?_) (fun k hk j hj => ?_)
            · obtain ⟨x, hx1, hx2⟩ := ho3 k hk j hj
              refine ⟨x, ?_, ?_⟩
              · rw [← hcsd, Array.append_assoc, Array.getElem?_append_left]
                · exact hx1
                · exact (Array.getElem?_eq_some_iff.1 hx1).1
              · have e : (Src.es ⟨b.α, b.size, b.enc, (b.l.drop 0).take n⟩).getD k [] = b.enc (b.l.getD k b.d) := by
                  have : k < b.l.length := by omega
                  simp [Src.es, List.getD_eq_getElem?_getD, hk, this]
                rw [e] at hx2; exact hx2
            · obtain ⟨x, hx1, hx2⟩ := hn3 k hk j hj
              have hlt := (Array.getElem?_eq_some_iff.1 hx1).1
              refine ⟨x, ?_, hx2⟩
              have e1 : (n + k) * b.size + j = n * b.size + (k * b.size + j) := by rw [Nat.add_mul, Nat.add_assoc]
              have e2 : old.size = n * b.size := ho2
              rw [e1, ← hcsd, Array.append_assoc, Array.getElem?_append_right (by omega), e2, Nat.add_sub_cancel_left, Array.getElem?_append_left hlt]
              exact hx1
          have hwold : sameIO w ({ w with drawn := w.drawn + 1, heap := w.heap.push (.cells cs e) } : World) ∧ ∀ r, r < w.heap.size → ({ w with drawn := w.drawn + 1, heap := w.heap.push (.cells cs e) } : World).heap[r]? = w.heap[r]? := push_old2 (n := w.drawn + 1)
          obtain ⟨f1, f2⟩ := newRow_ok (b := { b with l := b.l ++ es.map b.dec }) (cs := cs) (hH.drop1 id) hid hpos (by
            simp only [List.length_append, List.length_map]; rw [hcs]; exact hmul (show b.l.length + es.length ≤ newCap by omega)) hcell e (0, 0) (.inl rfl) hwold push_new
          refine ⟨_, _, rfl, _, .sl (L := ⟨w.heap.size, cs.size, b.size⟩) (by simp [updS]) hge (fun _ => ⟨by simp, by rw [hcs]; simp⟩), f1, f2.wider (fun k hk => by rcases hk with hk | hk <;> simp [hk])⟩
      · cases h
    · cases h
  · cases h

end Go.Proofs.YtiekchfipaiflaaGreatDoor
