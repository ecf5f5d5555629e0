/- A text as bytes, as signs: new blocks. -/
import Derived.Test.YtiekchfipaiflaaGreatDoorLk
namespace Go.Proofs.YtiekchfipaiflaaGreatDoor
open Go

/-- The first sign of bytes, and how many bytes it has. -/
def decL (l : List Int) : Nat × Nat :=
  let at' (k : Nat) : Nat := (l.getD k 0).toNat
  let cont (k : Nat) : Bool := decide (k < l.length) && at' k / 64 == 2
  let b0 := at' 0
  if b0 < 0x80 then (b0, 1)
  else if b0 / 32 == 6 && cont 1 then
    let c := (b0 % 32) * 64 + at' 1 % 64
    if c ≥ 0x80 then (c, 2) else (Utf8.runeError, 1)
  else if b0 / 16 == 14 && cont 1 && cont 2 then
    let c := (b0 % 16) * 4096 + (at' 1 % 64) * 64 + at' 2 % 64
    if c ≥ 0x800 && Utf8.valid c then (c, 3) else (Utf8.runeError, 1)
  else if b0 / 8 == 30 && cont 1 && cont 2 && cont 3 then
    let c := (b0 % 8) * 262144 + (at' 1 % 64) * 4096 + (at' 2 % 64) * 64 + at' 3 % 64
    if c ≥ 0x10000 && Utf8.valid c then (c, 4) else (Utf8.runeError, 1)
  else (Utf8.runeError, 1)

theorem get_at (s : ByteArray) (i k : Nat) : (s.get! (i + k)).toNat = (((strL s).drop i).getD k 0).toNat := by
  simp only [List.getD_eq_getElem?_getD, List.getElem?_drop, strL, List.getElem?_map, Array.getElem?_toList]
  show (s.data[i + k]!).toNat = _
  by_cases h : i + k < s.data.size
  · rw [getElem!_pos s.data _ h, Array.getElem?_eq_getElem h]; simp
  · rw [getElem!_neg s.data _ h, Array.getElem?_eq_none (by omega)]; rfl

theorem decode_eq (s : ByteArray) (i : Nat) : Utf8.decode s i = decL ((strL s).drop i) := by
  have hlen : ∀ k, (decide (i + k < s.size)) = decide (k < ((strL s).drop i).length) := by
    intro k
    have : s.size = s.data.size := rfl
    simp only [List.length_drop, strL, List.length_map, Array.length_toList, this]
    congr 1
    exact propext ⟨fun h => by omega, fun h => by omega⟩
  unfold Utf8.decode decL
  simp only [get_at, hlen]

def runesL : Nat → List Int → List Int
  | 0, _ => []
  | n + 1, l => if l.length = 0 then [] else ((decL l).1 : Int) :: runesL n (l.drop (decL l).2)
def runesOf (l : List Int) : List Int := runesL l.length l

theorem runesFrom_eq (s : ByteArray) : ∀ (bound i : Nat) (acc : Array Value), Conv.runesFrom s bound i acc = acc ++ ((runesL bound ((strL s).drop i)).map (Value.int .i32)).toArray := by
  intro bound
  induction bound with
  | zero => intro i acc; simp [Conv.runesFrom, runesL]
  | succ n ih =>
    intro i acc
    have hsz : s.size = s.data.size := rfl
    simp only [Conv.runesFrom, runesL]
    by_cases h : i < s.size
    · have hl : ¬ ((strL s).drop i).length = 0 := by simp [strL]; omega
      rw [if_pos h, if_neg hl, ih]
      rw [decode_eq]
      simp only [List.drop_drop, List.map_cons]
      apply Array.ext'
      simp
    · have hl : ((strL s).drop i).length = 0 := by simp [strL]; omega
      rw [if_neg h, if_pos hl]; simp

theorem runesOf_ok (s : ByteArray) : Conv.runesFrom s s.size 0 #[] = ((runesOf (strL s)).map (Value.int .i32)).toArray := by
  rw [runesFrom_eq]
  have : s.size = (strL s).length := by simp [strL]
  simp [runesOf, this]

theorem dec_bound (l : List Int) : (decL l).1 ≤ 0x10FFFF := by
  unfold decL
  have hv : ∀ c : Nat, Utf8.valid (c : Int) = true → c ≤ 0x10FFFF := by
    intro c h
    simp only [Utf8.valid, Bool.or_eq_true, Bool.and_eq_true, decide_eq_true_eq] at h
    omega
  have he : Utf8.runeError ≤ 0x10FFFF := by decide
  dsimp only
  split
  · show _ ≤ _; simp only; omega
  · split
    · split
      · simp only; omega
      · exact he
    · split
      · split
        · rename_i h; simp only [Bool.and_eq_true] at h; exact hv _ h.2
        · exact he
      · split
        · split
          · rename_i h; simp only [Bool.and_eq_true] at h; exact hv _ h.2
          · exact he
        · exact he

theorem runes_ok : ∀ (n : Nat) (l : List Int), ∀ r ∈ runesL n l, okInt .i32 r := by
  intro n
  induction n with
  | zero => intro l r hr; cases hr
  | succ n ih =>
    intro l r hr
    simp only [runesL] at hr
    split at hr
    · cases hr
    · cases hr with
      | head =>
        have := dec_bound l
        refine .inr ?_
        constructor <;> simp [IntKind.min, IntKind.max, IntKind.signed, IntKind.bits] <;> omega
      | tail _ hr => exact ih _ r hr

/-- Whole numbers as a new block. -/
def newInts (k : IntKind) (id : Nat) (b : Blk) (l : List Int) : Option Out :=
  if b.size == 1 then
    some ⟨[], [(l.map fun c => .agg (b.enc (b.dec [.i k c])), l.map fun c => .agg [.i k c])], .sl id 0 l.length, [(id, some { b with l := l.map fun c => b.dec [.i k c] })]⟩
  else none

def ofStrO (P : Program) (src dst : TypeId) (x : V) (id : Nat) (b : Blk) : Option Out :=
  match P.underlying src, P.underlying dst, x with
  | some .string, some (.slice e), .s l => match P.underlying e with
    | some (.int .u8) => newInts .u8 id b l
    | some (.int .i32) => newInts .i32 id b (runesOf l)
    | _ => none
  | _, _, _ => none

theorem newInts_ok {ρ σ D H F w k id out l} {b : Blk} {cs : Array Value} {cap : Nat} (h : newInts k id b l = some out) (hS : allS out.S) (hH : HInv ρ σ D H F w) (hid : σ id = none)
    (hok : ∀ n ∈ l, okInt k n) (hle : l.length ≤ cap) (hsz : cs.size = cap) (hcs : ∀ q, q < l.length → cs[q]? = some (.int k (l.getD q 0))) (e : TypeId) (fz : Nat × Nat)
    (hfz : fzOK fz cs.size) {w'} (hw : sameIO w w' ∧ ∀ r, r < w.heap.size → w'.heap[r]? = w.heap[r]?) (hw' : w'.heap[w.heap.size]? = some (.cells cs e fz)) :
    Fin ρ σ D H F out (.slice (some ⟨w.heap.size, 0, none⟩) l.length cap) w' := by
  unfold newInts at h
  split at h
  · rename_i hb
    cases h
    have hb' : b.size = 1 := by simpa using hb
    have hSe := hS.1
    dsimp only at hSe
    have := row_ok (es := l.map fun c => [V.i k c]) (b := b) (cs := cs) (n := l.length) (cap := cap)
      (C := []) (S := [(l.map fun c => .agg (b.enc (b.dec [.i k c])), l.map fun c => .agg [.i k c])]) hH hid (by omega) (by simp) (by
        intro vs hvs
        obtain ⟨c, hc, rfl⟩ := List.mem_map.1 hvs
        have := List.map_inj_left.1 hSe c hc
        injection this) (by rw [hb']; omega) (by
        intro q hq j hj
        have hj0 : j = 0 := by omega
        subst hj0
        refine ⟨_, by rw [hb', Nat.mul_one, Nat.add_zero]; exact hcs q hq, ?_⟩
        have e1 : (l.map fun c => [V.i k c]).getD q [] = [V.i k (l.getD q 0)] := by simp [List.getD_eq_getElem?_getD, hq]
        rw [e1]
        refine .i (hok _ ?_)
        have : l.getD q 0 = l[q] := by simp [List.getD_eq_getElem?_getD, hq]
        rw [this]; exact List.getElem_mem hq) e fz hfz hw hw' ⟨hle, by rw [hb']; omega⟩
    rw [List.map_map] at this
    exact this
  · cases h

theorem ofStrO_ok {ρ σ D H F w P src dst x id b a out} (h : ofStrO P src dst x id b = some out) (hS : allS out.S) (hH : HInv ρ σ D H F w) (hid : σ id = none) (hx : VR ρ σ x a) :
    ∃ z w', (convert src dst a).run P w = .ok z w' ∧ Fin ρ σ D H F out z w' := by
  unfold ofStrO at h
  split at h
  · rename_i e l hs hd
    cases hx
    rename_i s hsl
    have hlen : s.size = l.length := by rw [← hsl]; simp
    simp only [convert, Sem.run_bind, run_underlying hs, run_underlying hd, Result.andThen_ok]
    split at h
    · rename_i he
      simp only [run_underlying he, Result.andThen_ok, Conv.stringToBytes, Sem.run_bind, run_choose, show Question.forced (.appendCap s.size 0 e) = false from rfl, Bool.false_eq_true, if_false]
      generalize hcap : (Question.appendCap s.size 0 e).cut (w.tape w.drawn (.appendCap s.size 0 e)) = cap
      have hge : s.size ≤ cap := by rw [← hcap]; exact Nat.le_add_right _ _
      simp only [newRow, Sem.run_bind, run_newObj, Result.andThen_ok, Sem.run_pure, markStringish, run_shape]
      generalize hcs : s.data.map (fun b => Value.int .u8 (b.toNat : Int)) ++ Array.replicate (cap - s.size) (Value.int .u8 0) = cs
      have hcsz : cs.size = cap := by
        rw [← hcs]
        have : s.size = s.data.size := rfl
        simp; omega
      have hsh : ({ w with drawn := w.drawn + 1, heap := w.heap.push (.cells cs e) } : World).shape? w.heap.size = some (e, cs.size) := by
        simp [World.shape?]
      simp only [hsh, run_freeze, Result.andThen_ok]
      refine ⟨_, _, rfl, ?_⟩
      rw [hlen]
      refine newInts_ok h hS hH hid ?_ (by omega) hcsz (cs := cs) ?_ e (cs.size, cs.size + 1) (.inr (Nat.le_refl _)) ?_ ?_
      · intro n hn
        rw [← hsl] at hn
        obtain ⟨c, _, rfl⟩ := List.mem_map.1 hn
        refine .inr ?_
        have := c.toNat_lt
        constructor <;> simp [IntKind.min, IntKind.max, IntKind.signed, IntKind.bits] <;> omega
      · intro q hq
        have hq' : q < s.data.size := by have : s.size = s.data.size := rfl; omega
        rw [← hcs, Array.getElem?_append_left (by simpa using hq')]
        simp only [Array.getElem?_map, Array.getElem?_eq_getElem hq', Option.map_some]
        rw [← hsl]
        simp only [List.getD_eq_getElem?_getD, List.getElem?_map, Array.getElem?_toList, Array.getElem?_eq_getElem hq', Option.map_some, Option.getD_some]
      · refine ⟨⟨rfl, rfl⟩, fun r hr => ?_⟩
        simp only [World.freeze, Nat.one_ne_zero, if_false, Array.getElem?_modify]
        rw [if_neg (by omega)]
        exact push_old (n := w.drawn + 1) r hr
      · simp only [World.freeze, Nat.one_ne_zero, if_false, Array.getElem?_modify, if_true]
        simp
    · rename_i he
      simp only [run_underlying he, Result.andThen_ok, Conv.stringToRunes, Sem.run_bind, run_choose]
      rw [runesOf_ok]
      rw [show strL s = l from hsl]
      simp only [List.size_toArray, List.length_map, show Question.forced (.appendCap (runesOf l).length 0 e) = false from rfl, Bool.false_eq_true, if_false, Result.andThen_ok]
      generalize hcap : (Question.appendCap (runesOf l).length 0 e).cut (w.tape w.drawn (.appendCap (runesOf l).length 0 e)) = cap
      have hge : (runesOf l).length ≤ cap := by rw [← hcap]; exact Nat.le_add_right _ _
      simp only [newRow, Sem.run_bind, run_newObj, Result.andThen_ok, Sem.run_pure]
      refine ⟨_, _, rfl, ?_⟩
      refine newInts_ok h hS hH hid (runes_ok _ _) hge (by simp; omega) ?_ e (0, 0) (.inl rfl) (push_old2 (n := w.drawn + 1)) push_new
      intro q hq
      rw [Array.getElem?_append_left (by simpa using hq)]
      simp [List.getD_eq_getElem?_getD, hq]
    · cases h
  · cases h

end Go.Proofs.YtiekchfipaiflaaGreatDoor
