/- copy, clear; texts of bytes and of signs, and back. -/
import Derived.Test.YtiekchfipaiflaaGreatDoorLj
namespace Go.Proofs.YtiekchfipaiflaaGreatDoor
open Go

/-- A row of elements is laid into a block. -/
theorem putRow_ok {ρ σ D H F w P id off} {b : Blk} {L : Loc} {es : List (List V)} {cs : Array Value} (hH : HInv ρ σ D H F w) (hb : H id = some b) (hL : σ id = some L)
    (hoff : off + es.length ≤ b.l.length) (hne : es ≠ []) (hS : ∀ vs ∈ es, b.enc (b.dec vs) = vs) (hsc : ∀ vs ∈ es, ∀ j, j < b.size → scal (vs.getD j .u) = true) (hcs : cs.size = es.length * b.size)
    (hcell : ∀ k, k < es.length → ∀ j, j < b.size → ∃ x, cs[k * b.size + j]? = some x ∧ VR ρ σ ((es.getD k []).getD j .u) x) :
    ∃ w', (storeCells ⟨L.r, off * L.es, none⟩ cs.toList).run P w = .ok () w' ∧ HInv ρ σ D (upd H id (some { b with l := putAt b.l off (es.map b.dec) })) F w' := by
  obtain ⟨M, hM, hB⟩ := hH.blk _ _ hb
  rw [hL] at hM; cases hM
  obtain ⟨hes, hpos, hcase⟩ := hB
  have hlen : 0 < es.length := List.length_pos_iff.2 hne
  have hmul : ∀ {p q : Nat}, p ≤ q → p * b.size ≤ q * b.size := fun h => Nat.mul_le_mul_right _ h
  rcases hcase with ⟨_, hnil⟩ | ⟨c0, ty0, fz, hw, hc0s, hle, hfz, hcell0⟩
  · rw [hnil] at hoff; simp at hoff; exact absurd hoff.2 hne
  · have hbig : off * b.size + es.length * b.size ≤ b.l.length * b.size := by rw [← Nat.add_mul]; exact hmul hoff
    have hcap : L.cap ≠ 0 := by
      have := hmul (show 1 ≤ es.length by omega); omega
    obtain ⟨w', c', hr, ho, hw', hsz', hcs', hk'⟩ := run_storeCells (P := P) (r := L.r) (off := off * b.size) (t := ty0) (fz := fz) cs.toList 0 w c0 hw hfz.out (by simp [hcs]; omega) (by
      intro v hv
      obtain ⟨q, hq, rfl⟩ := List.getElem_of_mem hv
      simp only [Array.length_toList] at hq
      simp only [Array.getElem_toList]
      have hq1 : q / b.size < es.length := by
        rw [hcs] at hq
        exact Nat.div_lt_of_lt_mul (by rw [Nat.mul_comm]; exact hq)
      have hq2 : q % b.size < b.size := Nat.mod_lt _ hpos
      obtain ⟨y, hy1, hy2⟩ := hcell _ hq1 _ hq2
      rw [show q / b.size * b.size + q % b.size = q from Nat.div_add_mod' q b.size] at hy1
      rw [Array.getElem?_eq_getElem hq] at hy1
      cases hy1
      exact scal_cell hy2 (hsc _ (getD_mem hq1) _ hq2))
    refine ⟨w', by rw [hes]; exact hr, hH.write (b' := { b with l := putAt b.l off (es.map b.dec) }) hb hL hcap ho.1 ho.2 ⟨hes, hpos, .inr ⟨c', ty0, fz, hw', by rw [hcs']; exact hc0s, ?_, by rw [hcs']; exact hfz, ?_⟩⟩⟩
    · dsimp only; rw [putAt_length _ _ _ (by simpa using hoff), hcs']; exact hle
    · intro k hk j hj
      dsimp only at hk hj ⊢
      rw [putAt_length _ _ _ (by simpa using hoff)] at hk
      rw [putAt_getD _ _ _ _ (by simpa using hoff)]
      simp only [List.length_map]
      by_cases hin : off ≤ k ∧ k < off + es.length
      · rw [if_pos hin]
        have hk1 : k - off < es.length := by omega
        rw [map_dec_getD hk1, hS _ (getD_mem hk1)]
        obtain ⟨y, hy1, hy2⟩ := hcell _ hk1 j hj
        refine ⟨y, ?_, hy2⟩
        have hlt := (Array.getElem?_eq_some_iff.1 hy1).1
        have e1 : k * b.size + j = off * b.size + ((k - off) * b.size + j) := by
          rw [← Nat.add_assoc, ← Nat.add_mul, show off + (k - off) = k by omega]
        rw [hk', e1, if_pos (by simp only [Array.length_toList]; omega)]
        rw [show off * b.size + ((k - off) * b.size + j) - (off * b.size + 0) = (k - off) * b.size + j by omega]
        simpa using hy1
      · rw [if_neg hin]
        obtain ⟨y, hy1, hy2⟩ := hcell0 k hk j hj
        refine ⟨y, ?_, hy2⟩
        rw [hk', if_neg ?_]
        · exact hy1
        · simp only [Array.length_toList, hcs]
          rintro ⟨h1, h2⟩
          rcases Nat.lt_or_ge k off with hlt | hge
          · have := hmul (show k + 1 ≤ off by omega)
            rw [Nat.add_mul, Nat.one_mul] at this; omega
          · have := hmul (show off + es.length ≤ k by omega)
            rw [Nat.add_mul] at this; omega

theorem elems_take {x blk C} {s : Src} (h : elemsOf x blk = some (C, s)) (m : Nat) : s.es.take m = (Src.es ⟨s.α, s.size, s.enc, s.l.take m⟩) := by
  simp [Src.es, List.map_take]

def copyO (P : Program) (t : TypeId) (x y : V) (blk : Nat → Option Blk) : Option Out :=
  match P.underlying t, x with
  | some (.slice e), .sl id off n => match P.info? e, blk id, elemsOf y blk with
    | some i, some b, some (C, s) =>
      if i.size == b.size && s.size == b.size && Nat.ble 1 b.size then
        some ⟨(off + n ≤ b.l.length) :: C, [fitS s b, scalS s], .i .i64 ((Nat.min s.l.length n : Nat) : Int),
          [(id, some { b with l := putAt b.l off ((s.l.take (Nat.min s.l.length n)).map fun y => b.dec (s.enc y)) })]⟩
      else none
    | _, _, _ => none
  | _, _ => none

theorem copyO_ok {ρ σ D H F w P t x y out} {a c : Value} {ty : TypeId} {ats : Array TypeId} (h : copyO P t x y H = some out) (hC : allP out.C) (hS : allS out.S)
    (hH : HInv ρ σ D H F w) (hx : VR ρ σ x a) (hy : VR ρ σ y c) (h0 : ats[0]? = some t) :
    ∃ z w', (Builtin.copy_ ats ty #[a, c]).run P w = .ok z w' ∧ Fin ρ σ D H F out z w' := by
  unfold copyO at h
  split at h
  · rename_i e id off n hut
    split at h
    · rename_i i b C s hi hb hel
      split at h
      · rename_i hk
        cases h
        simp only [Bool.and_eq_true, beq_iff_eq, Nat.ble_eq] at hk
        obtain ⟨⟨hk1, hk2⟩, hk3⟩ := hk
        obtain ⟨hc1, hc2⟩ := hC
        have hS' := fitS_ok hS.1
        have hS2 := scalS_ok hS.2.1
        have hlE : s.l.length = s.es.length := by simp [Src.es]
        cases hx
        rename_i L a0 cap hL hcc hl
        have hlen := lenOf_ok hel hc2 hy P w
        obtain ⟨cs, hcs, hcsz, hcell⟩ := firstCells_ok (P := P) hel hk2 hc2 hH hy (by omega) (m := Nat.min s.es.length n) (Nat.min_le_left _ _)
        simp only [Builtin.copy_, h0, List.getElem?_toArray, List.getElem?_cons_zero, List.getElem?_cons_succ, Sem.run_bind, run_underlying hut, Result.andThen_ok, hlen, run_sizeOf hi, hk1, hcs]
        have hto : (s.l.take (Nat.min s.l.length n)).map (fun y => b.dec (s.enc y)) = (s.es.take (Nat.min s.es.length n)).map b.dec := by
          rw [← hlE]; simp only [Src.es, List.map_take, List.map_map]; rfl
        have hesl : (s.es.take (Nat.min s.es.length n)).length = Nat.min s.es.length n := by
          rw [List.length_take]; exact Nat.min_eq_left (Nat.min_le_left _ _)
        have hmn : Nat.min s.es.length n ≤ n := Nat.min_le_right _ _
        by_cases hm0 : Nat.min s.es.length n = 0
        · have hcs0 : cs = #[] := by apply Array.eq_empty_of_size_eq_zero; rw [hcsz, hm0]; simp
          subst hcs0
          have hput : putAt b.l off ((s.l.take (Nat.min s.l.length n)).map fun y => b.dec (s.enc y)) = b.l := by
            rw [hto, hm0]; simp [putAt]
          have hHs : HInv ρ σ D (upd H id (some b)) F w := by
            have : upd H id (some b) = H := by funext k; unfold upd; split <;> simp_all
            rw [this]; exact hH
          refine ⟨goInt ((Nat.min s.es.length n : Nat) : Int), w, ?_, σ, ?_, leS.refl _, ?_⟩
          · cases a0 with
            | none => rfl
            | some a0 => rfl
          · rw [hlE]; exact .i (.inl rfl)
          · simp only [applyW, List.foldl_cons, List.foldl_nil, hput]
            exact hHs.wider (fun _ h => .inl h)
        · obtain ⟨ha, hcap⟩ := hcc (by omega)
          subst ha
          obtain ⟨w', hr, hH'⟩ := putRow_ok (P := P) (off := off) (es := s.es.take (Nat.min s.es.length n)) (cs := cs) hH hb hL (by rw [hesl]; omega) (by intro e0; rw [e0] at hesl; simp at hesl; omega)
            (fun vs hvs => hS' vs (List.mem_of_mem_take hvs)) (fun vs hvs j hj => (hS2 vs (List.mem_of_mem_take hvs)).2 j (by rw [hk2]; exact hj)) (by rw [hcsz, hesl]) (by
              intro k hk j hj
              rw [hesl] at hk
              obtain ⟨y, hy1, hy2⟩ := hcell k hk j hj
              refine ⟨y, hy1, ?_⟩
              have : (s.es.take (Nat.min s.es.length n)).getD k [] = s.es.getD k [] := by
                simp only [List.getD_eq_getElem?_getD, List.getElem?_take, if_pos hk]
              rw [this]; exact hy2)
          refine ⟨goInt ((Nat.min s.es.length n : Nat) : Int), w', ?_, σ, ?_, leS.refl _, ?_⟩
          · simp only [Sem.run_bind, hr, Result.andThen_ok, Sem.run_pure]
          · rw [hlE]; exact .i (.inl rfl)
          · simp only [applyW, List.foldl_cons, List.foldl_nil, hto]
            exact hH'.wider (fun _ h => .inl h)
      · cases h
    · cases h
  · cases h

def clearO (P : Program) (t : TypeId) (x : V) (blk : Nat → Option Blk) : Option Out :=
  match P.underlying t, x with
  | some (.slice e), .sl id off n => match P.info? e, zeroL P e, blk id with
    | some i, some z, some b =>
      if i.size == b.size && z.length == b.size && allScal z then
        some ⟨[off + n ≤ b.l.length], [(b.enc (b.dec z), z)], .tup [],
          [(id, some { b with l := putAt b.l off (List.replicate n (b.dec z)) })]⟩
      else none
    | _, _, _ => none
  | _, _ => none

theorem clearO_ok {ρ σ D H F w P t x out} {a : Value} {ty : TypeId} {ats : Array TypeId} (h : clearO P t x H = some out) (hC : allP out.C) (hS : allS out.S)
    (hH : HInv ρ σ D H F w) (hx : VR ρ σ x a) (h0 : ats[0]? = some t) :
    ∃ z w', (Builtin.clear_ ats ty #[a]).run P w = .ok z w' ∧ Fin ρ σ D H F out z w' := by
  unfold clearO at h
  split at h
  · rename_i e id off n hut
    split at h
    · rename_i i zl b hi hzl hb
      split at h
      · rename_i hk
        cases h
        simp only [Bool.and_eq_true, beq_iff_eq] at hk
        obtain ⟨⟨hk1, hk2⟩, hk3⟩ := hk
        obtain ⟨i', zv, hi', hz, rfl⟩ := zeroL_some hzl
        rw [hi] at hi'; cases hi'
        have hSe := hS.1
        dsimp only at hSe
        cases hx
        rename_i L a0 cap hL hcc hl
        simp only [Builtin.clear_, h0, List.getElem?_toArray, List.getElem?_cons_zero, Sem.run_bind, run_underlying hut, Result.andThen_ok]
        by_cases hn0 : n = 0
        · subst hn0
          have hput : putAt b.l off (List.replicate 0 (b.dec (vcells (toV zv)))) = b.l := by simp [putAt]
          refine ⟨.tuple #[], w, ?_, σ, .tup (cs := #[]) rfl (fun i hi => by simp at hi), leS.refl _, ?_⟩
          · cases a0 <;> rfl
          · have : upd H id (some b) = H := by funext k; unfold upd; split <;> simp_all
            simp only [applyW, List.foldl_cons, List.foldl_nil, hput]
            rw [this]; exact hH.wider (fun _ h => .inl h)
        · obtain ⟨ha, hcap⟩ := hcc (by omega)
          subst ha
          have hz2 := toV_cells zv (ρ := ρ) (σ := σ)
          have hzs : zv.cells.size = b.size := by rw [← hz2.1, hk2]
          have hpos : 0 < b.size := by
            obtain ⟨M, hM, hB⟩ := hH.blk _ _ hb
            exact hB.2.1
          obtain ⟨w', hr, hH'⟩ := putRow_ok (P := P) (off := off) (es := List.replicate n (vcells (toV zv))) (cs := Builtin.zeroCells zv.cells n) hH hb hL (by simpa using hC.1) (by
              intro e0; have := congrArg List.length e0; simp at this; omega)
            (fun vs hvs => by rw [(List.mem_replicate.1 hvs).2]; exact hSe) (fun vs hvs j hj => by rw [(List.mem_replicate.1 hvs).2]; exact allScal_mem hk3 j (by rw [hk2]; exact hj)) (by simp [Builtin.zeroCells, hzs]) (by
              intro k hk j hj
              simp only [List.length_replicate] at hk
              have hlt : k * b.size + j < n * b.size := by
                have : (k + 1) * b.size ≤ n * b.size := Nat.mul_le_mul_right _ hk
                rw [Nat.add_mul, Nat.one_mul] at this; omega
              have hmod : (k * b.size + j) % b.size = j := by rw [Nat.mul_comm, Nat.mul_add_mod, Nat.mod_eq_of_lt hj]
              refine ⟨zv.cells[j]'(by omega), ?_, ?_⟩
              · simp only [Builtin.zeroCells, hzs, Array.getElem?_map, Array.getElem?_range, if_pos hlt, Option.map_some, hmod]
                rw [getElem!_pos zv.cells j (by omega)]
              · have e1 : (List.replicate n (vcells (toV zv))).getD k [] = vcells (toV zv) := by simp [List.getD_eq_getElem?_getD, List.getElem?_replicate, hk]
                rw [e1]; exact hz2.2 j (by omega))
          refine ⟨.tuple #[], w', ?_, σ, .tup (cs := #[]) rfl (fun i hi => by simp at hi), leS.refl _, ?_⟩
          · cases n with
            | zero => omega
            | succ n => simp only [Sem.run_bind, run_zeroValue hi hz, Result.andThen_ok, hr, Sem.run_pure]
          · simp only [applyW, List.foldl_cons, List.foldl_nil]
            rw [List.map_replicate] at hH'
            exact hH'.wider (fun _ h => .inl h)
      · cases h
    · cases h
  · cases h


/-! Texts. -/

def vInt : V → Int
  | .i _ n => n
  | _ => 0

/-- The numbers that stand in a slice of whole numbers. -/
def Src.ints (s : Src) : List Int := s.l.map fun y => vInt ((s.enc y).getD 0 .u)
def intS (k : IntKind) (s : Src) : List V × List V := (s.l.map fun y => (s.enc y).getD 0 .u, s.l.map fun y => .i k (vInt ((s.enc y).getD 0 .u)))
theorem intS_ok {k} {s : Src} (h : (intS k s).1 = (intS k s).2) : ∀ q, q < s.es.length → (s.es.getD q []).getD 0 .u = .i k (s.ints.getD q 0) := by
  intro q hq
  have hq' : q < s.l.length := by simpa [Src.es] using hq
  have := List.map_inj_left.1 h s.l[q] (List.getElem_mem hq')
  have e1 : s.es.getD q [] = s.enc s.l[q] := by simp [Src.es, List.getD_eq_getElem?_getD, hq']
  have e2 : s.ints.getD q 0 = vInt ((s.enc s.l[q]).getD 0 .u) := by simp [Src.ints, List.getD_eq_getElem?_getD, hq']
  rw [e1, e2]; exact this

theorem ints_length (s : Src) : s.ints.length = s.es.length := by simp [Src.ints, Src.es]

/-- Cells that are whole numbers, as a list. -/
theorem ints_cells {ρ σ k} {s : Src} (h : (intS k s).1 = (intS k s).2) {cs : Array Value} (hcs : cs.size = s.es.length * 1)
    (hcell : ∀ q, q < s.es.length → ∀ j, j < 1 → ∃ x, cs[q * 1 + j]? = some x ∧ VR ρ σ ((s.es.getD q []).getD j .u) x) :
    cs.toList = s.ints.map (.int k) ∧ ∀ n ∈ s.ints, okInt k n := by
  have main : ∀ q, q < s.es.length → cs[q]? = some (.int k (s.ints.getD q 0)) ∧ okInt k (s.ints.getD q 0) := by
    intro q hq
    obtain ⟨x, hx, hv⟩ := hcell q hq 0 (by omega)
    rw [intS_ok h q hq] at hv
    cases hv
    rename_i ho
    exact ⟨by simpa using hx, ho⟩
  refine ⟨?_, ?_⟩
  · apply List.ext_getElem?
    intro q
    by_cases hq : q < s.es.length
    · rw [Array.getElem?_toList, (main q hq).1]
      have : q < s.ints.length := by rw [ints_length]; exact hq
      simp [List.getD_eq_getElem?_getD, this]
    · rw [Array.getElem?_toList, Array.getElem?_eq_none (by omega), List.getElem?_eq_none (by rw [List.length_map, ints_length]; omega)]
  · intro n hn
    obtain ⟨q, hq, rfl⟩ := List.getElem_of_mem hn
    have := (main q (by rw [← ints_length]; exact hq)).2
    simpa [List.getD_eq_getElem?_getD, hq] using this

theorem loadCells_nil {P : Program} {w : World} (a : Addr) : (loadCells a 0).run P w = .ok #[] w := rfl

theorem forInts {β : Type} {P : Program} {w : World} {k : IntKind} (g : Value → β → Sem (ForInStep β)) (f : β → Int → β) (hg : ∀ n r, g (.int k n) r = pure (.yield (f r n))) :
    ∀ (l : List Int) (s : β), (forIn (l.map (Value.int k)) s g).run P w = .ok (l.foldl f s) w := by
  intro l
  induction l with
  | nil => intro s; rfl
  | cons n l ih =>
    intro s
    simp only [List.map_cons, List.forIn_cons, Sem.run_bind, hg, Sem.run_pure, Result.andThen_ok, List.foldl_cons]
    exact ih _

theorem foldBytes : ∀ (l : List Int) (s : ByteArray), (∀ n ∈ l, okInt .u8 n) → strL (l.foldl (fun r n => r.push (UInt8.ofNat n.toNat)) s) = strL s ++ l := by
  intro l
  induction l with
  | nil => intro s _; simp
  | cons n l ih =>
    intro s h
    rw [List.foldl_cons, ih _ (fun m hm => h m (.tail _ hm))]
    have hn : okInt .u8 n := h n (.head _)
    rcases hn with hn | hn
    · cases hn
    · obtain ⟨h0, h1⟩ := hn
      simp [IntKind.min, IntKind.max, IntKind.signed, IntKind.bits] at h0 h1
      simp only [strL, ByteArray.data_push, Array.toList_push, List.map_append, List.map_cons, List.map_nil, List.append_assoc, List.singleton_append]
      congr 2
      simp only [UInt8.toNat_ofNat']
      omega

theorem foldRunes : ∀ (l : List Int) (s : ByteArray), strL (l.foldl (fun r n => r ++ Utf8.encode n) s) = strL s ++ l.flatMap utf8 := by
  intro l
  induction l with
  | nil => intro s; simp
  | cons n l ih =>
    intro s
    rw [List.foldl_cons, ih]
    have : strL (s ++ Utf8.encode n) = strL s ++ utf8 n := by rw [← utf8_eq]; simp [strL]
    rw [this]; simp

def notStr : V → Bool
  | .s _ => false
  | _ => true
def elemsS (x : V) (blk : Nat → Option Blk) : Option (List Prop × Src) := if notStr x then elemsOf x blk else none
theorem elemsS_some {x blk r} (h : elemsS x blk = some r) : notStr x = true ∧ elemsOf x blk = some r := by
  unfold elemsS at h
  split at h
  · exact ⟨by assumption, h⟩
  · cases h

/-- A slice as a text. -/
def toStrO (P : Program) (src dst : TypeId) (x : V) (blk : Nat → Option Blk) : Option Out :=
  match P.underlying src, P.underlying dst with
  | some (.slice e), some .string => match P.underlying e with
    | some (.int .u8) => match x with
      | .nils => some ⟨[], [], .s [], []⟩
      | _ => match elemsS x blk with
        | some (C, s) => if s.size == 1 then some ⟨C, [intS .u8 s], .s s.ints, []⟩ else none
        | none => none
    | some (.int .i32) => match x with
      | .nils => some ⟨[], [], .s [], []⟩
      | _ => match elemsS x blk with
        | some (C, s) => if s.size == 1 then some ⟨C, [intS .i32 s], .s (s.ints.flatMap utf8), []⟩ else none
        | none => none
    | _ => none
  | _, _ => none

theorem elems_slice {ρ σ x a blk C s} (h : elemsOf x blk = some (C, s)) (hx : VR ρ σ x a) (hn : notStr x = true) : ∃ b n c, a = .slice b n c := by
  unfold elemsOf at h
  split at h
  · cases hx; exact ⟨_, _, _, rfl⟩
  · cases hx; exact ⟨_, _, _, rfl⟩
  · simp [notStr] at hn
  · cases h

theorem cellsOf_slice {ρ σ D H F w P x C s} {b : Option Addr} {n c : Nat} (h : elemsOf x H = some (C, s)) (hs : s.size = 1) (hC : allP C) (hH : HInv ρ σ D H F w) (hx : VR ρ σ x (.slice b n c)) :
    n = s.es.length ∧ ∃ cs, ((b = none → n = 0 ∧ cs = #[]) ∧ (∀ a, b = some a → (loadCells a n).run P w = .ok cs w)) ∧ cs.size = s.es.length * 1 ∧
      ∀ q, q < s.es.length → ∀ j, j < 1 → ∃ y, cs[q * 1 + j]? = some y ∧ VR ρ σ ((s.es.getD q []).getD j .u) y := by
  have hl := lenOf_ok h hC hx P w
  simp only [Builtin.lenOf, Sem.run_pure] at hl
  have hn : n = s.es.length := by injection hl
  subst hn
  obtain ⟨cs, h1, h2, h3⟩ := firstCells_ok (P := P) h hs hC hH hx (by omega) (Nat.le_refl _)
  refine ⟨rfl, cs, ⟨fun hb => ?_, fun a ha => ?_⟩, h2, h3⟩
  · subst hb
    simp only [Builtin.firstCells, Sem.run_pure] at h1
    have : cs = #[] := by injection h1 with h1; exact h1.symm
    subst this
    simp at h2
    exact ⟨by simpa using h2.symm, rfl⟩
  · subst ha
    simp only [Builtin.firstCells, Nat.mul_one] at h1
    exact h1

theorem toStrO_ok {ρ σ D H F w P src dst x a out} (h : toStrO P src dst x H = some out) (hC : allP out.C) (hS : allS out.S) (hH : HInv ρ σ D H F w) (hx : VR ρ σ x a) :
    ∃ z, (convert src dst a).run P w = .ok z w ∧ Fin ρ σ D H F out z w := by
  have e1 : UInt8.ofNat = UInt8.ofNat := rfl
  unfold toStrO at h
  split at h
  · rename_i e hs hd
    simp only [convert, Sem.run_bind, run_underlying hs, run_underlying hd, Result.andThen_ok]
    split at h
    · rename_i he
      split at h
      · cases h; cases hx
        rename_i a0
        simp only [Sem.run_bind, run_underlying he, Result.andThen_ok]
        cases a0 with
        | none => exact ⟨_, rfl, Fin.pure hH (.s rfl)⟩
        | some a0 => exact ⟨_, rfl, Fin.pure hH (.s rfl)⟩
      · split at h
        · rename_i C s hel
          split at h
          · rename_i hsz
            cases h
            have hsz' : s.size = 1 := by simpa using hsz
            obtain ⟨hns, hel⟩ := elemsS_some hel
            obtain ⟨a0, n, c, rfl⟩ := elems_slice hel hx hns
            obtain ⟨rfl, cs, ⟨hb1, hb2⟩, hcz, hcell⟩ := cellsOf_slice (P := P) hel hsz' hC hH hx
            obtain ⟨hcl, hok⟩ := ints_cells hS.1 hcz hcell
            simp only [Sem.run_bind, run_underlying he, Result.andThen_ok]
            have hstr : strL (s.ints.foldl (fun (r : ByteArray) (n : Int) => r.push (UInt8.ofNat n.toNat)) ByteArray.empty) = s.ints := by
              rw [foldBytes _ _ hok]; rfl
            cases a0 with
            | none =>
              obtain ⟨h0, hcs0⟩ := hb1 rfl
              subst hcs0
              have : s.ints = [] := List.eq_nil_of_length_eq_zero (by rw [ints_length]; exact h0)
              rw [this]
              exact ⟨_, rfl, Fin.pure hH (.s rfl)⟩
            | some a0 =>
              refine ⟨.string (s.ints.foldl (fun (r : ByteArray) (n : Int) => r.push (UInt8.ofNat n.toNat)) ByteArray.empty), ?_, Fin.pure hH (.s hstr)⟩
              simp only [Conv.bytesToString, Sem.run_bind, hb2 a0 rfl, Result.andThen_ok]
              rw [← Array.forIn_toList, hcl]
              rw [forInts _ (fun (r : ByteArray) n => r.push (UInt8.ofNat n.toNat)) (fun n r => rfl)]
              rfl
          · cases h
        · cases h
    · rename_i he
      split at h
      · cases h; cases hx
        rename_i a0
        simp only [Sem.run_bind, run_underlying he, Result.andThen_ok]
        cases a0 with
        | none => exact ⟨_, rfl, Fin.pure hH (.s rfl)⟩
        | some a0 => exact ⟨_, rfl, Fin.pure hH (.s rfl)⟩
      · split at h
        · rename_i C s hel
          split at h
          · rename_i hsz
            cases h
            have hsz' : s.size = 1 := by simpa using hsz
            obtain ⟨hns, hel⟩ := elemsS_some hel
            obtain ⟨a0, n, c, rfl⟩ := elems_slice hel hx hns
            obtain ⟨rfl, cs, ⟨hb1, hb2⟩, hcz, hcell⟩ := cellsOf_slice (P := P) hel hsz' hC hH hx
            obtain ⟨hcl, hok⟩ := ints_cells hS.1 hcz hcell
            simp only [Sem.run_bind, run_underlying he, Result.andThen_ok]
            have hstr : strL (s.ints.foldl (fun r n => r ++ Utf8.encode n) ByteArray.empty) = s.ints.flatMap utf8 := by
              rw [foldRunes]; rfl
            cases a0 with
            | none =>
              obtain ⟨h0, hcs0⟩ := hb1 rfl
              subst hcs0
              have : s.ints = [] := List.eq_nil_of_length_eq_zero (by rw [ints_length]; exact h0)
              rw [this]
              exact ⟨_, rfl, Fin.pure hH (.s rfl)⟩
            | some a0 =>
              refine ⟨.string (s.ints.foldl (fun r n => r ++ Utf8.encode n) ByteArray.empty), ?_, Fin.pure hH (.s hstr)⟩
              simp only [Conv.runesToString, Sem.run_bind, hb2 a0 rfl, Result.andThen_ok]
              rw [← Array.forIn_toList, hcl]
              rw [forInts _ (fun (r : ByteArray) n => r ++ Utf8.encode n) (fun n r => rfl)]
              rfl
          · cases h
        · cases h
    · cases h
  · cases h

end Go.Proofs.YtiekchfipaiflaaGreatDoor
