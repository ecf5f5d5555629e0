/- More operations that touch no memory: conversions, cuts, fields, places, lengths, least and greatest, structs that are built. -/
import Derived.Test.YtiekchfipaiflaaGreatDoorLd
namespace Go.Proofs.YtiekchfipaiflaaGreatDoor
open Go

/-- The signs of a number as UTF-8. -/
def utf8 (r : Int) : List Int :=
  let c : Nat := if Utf8.valid r then r.toNat else Utf8.runeError
  let b (n : Nat) : Int := ((UInt8.ofNat n).toNat : Int)
  if c < 0x80 then [b c]
  else if c < 0x800 then [b (0xC0 + c / 64), b (0x80 + c % 64)]
  else if c < 0x10000 then [b (0xE0 + c / 4096), b (0x80 + c / 64 % 64), b (0x80 + c % 64)]
  else [b (0xF0 + c / 262144), b (0x80 + c / 4096 % 64), b (0x80 + c / 64 % 64), b (0x80 + c % 64)]
def strL (s : ByteArray) : List Int := s.data.toList.map (fun c : UInt8 => (c.toNat : Int))
theorem utf8_eq (r : Int) : strL (Utf8.encode r) = utf8 r := by
  unfold strL Utf8.encode utf8
  dsimp only
  repeat' split
  all_goals rfl

def convA (P : Program) (src dst : TypeId) (x : V) : Option (List Prop × V) :=
  match P.underlying src, P.underlying dst, x with
  | some (.int _), some (.int k), .i _ n => some (if isI64 k then ([inR n], .i k n) else ([], .i k (k.wrap n)))
  | some _, some .string, .i _ n => some ([], .s (utf8 n))
  | some _, some .string, .s l => some ([], .s l)
  | _, _, _ => none

theorem convA_ok {ρ σ P src dst x a C v} (h : convA P src dst x = some (C, v)) (hC : allP C) (hx : VR ρ σ x a) (w : World) :
    ∃ z, (convert src dst a).run P w = .ok z w ∧ VR ρ σ v z := by
  unfold convA at h
  split at h
  · rename_i k0 k k' n hs hd
    cases hx
    simp only [convert, Sem.run_bind, run_underlying hs, run_underlying hd, Result.andThen_ok]
    by_cases hk : isI64 k = true
    · simp only [if_pos hk] at h; cases h
      have : k = .i64 := by cases k <;> simp [isI64] at hk ⊢
      subst this
      exact ⟨.int .i64 n, by simp only [Conv.intToInt, Sem.run_pure]; rw [wrap_in hC.1], .i (.inl rfl)⟩
    · simp only [if_neg hk] at h; cases h
      exact ⟨_, rfl, .i (ok_wrap _ _)⟩
  · rename_i d hs hd
    cases h
    cases hx
    rename_i k n hn
    simp only [convert, Sem.run_bind, run_underlying hs, run_underlying hd, Result.andThen_ok]
    exact ⟨_, rfl, .s (utf8_eq _)⟩
  · rename_i d hs hd
    cases h
    cases hx
    rename_i s hs'
    simp only [convert, Sem.run_bind, run_underlying hs, run_underlying hd, Result.andThen_ok]
    exact ⟨_, rfl, .s hs'⟩
  · cases h

/-- A cut of a text. -/
def cutS (l : List Int) (lo hi : Option V) : Option (List Prop × V) :=
  match lo, hi with
  | none, none => some ([], .s l)
  | some (.i _ a), none => some ([0 ≤ a, a ≤ (l.length : Int)], .s (l.drop a.toNat))
  | none, some (.i _ b) => some ([0 ≤ b, b ≤ (l.length : Int)], .s (l.take b.toNat))
  | some (.i _ a), some (.i _ b) => some ([0 ≤ a, a ≤ b, b ≤ (l.length : Int)], .s ((l.take b.toNat).drop a.toNat))
  | _, _ => none

theorem bound_ok {ρ σ} {k : IntKind} {n : Int} {y : Nat} {c : Value} {code} (hx : VR ρ σ (.i k n) c) (h0 : 0 ≤ n) (h1 : n ≤ (y : Int)) {P : Program} {w : World} :
    (Instr.sliceBound c y code).run P w = .ok n.toNat w := by
  cases hx
  simp only [Instr.sliceBound, asIntOf, Sem.run_bind, Sem.run_pure, Result.andThen_ok, Sem.run_ite]
  rw [if_pos ⟨h0, h1⟩]

theorem extract_L (s : ByteArray) (a b : Nat) : strL (s.extract a b) = ((strL s).take b).drop a := by
  unfold strL
  rw [ByteArray.data_extract]
  simp only [Array.toList_extract, List.extract_eq_take_drop, List.map_take, List.map_drop]
  rw [List.take_drop]
  by_cases h : a ≤ b
  · rw [show a + (b - a) = b by omega]
  · rw [show a + (b - a) = a by omega]
    rw [List.drop_eq_nil_of_le (by simp; omega), List.drop_eq_nil_of_le (by simp; omega)]

theorem cutS_ok {ρ σ P t l s lo hi} {a b : Option Value} {C v} (h : cutS l lo hi = some (C, v)) (hC : allP C) (hs : strL s = l)
    (ht : P.underlying t = some .string) (w : World)
    (hlo : ∀ x, lo = some x → ∃ c, a = some c ∧ VR ρ σ x c) (hln : lo = none → a = none)
    (hhi : ∀ x, hi = some x → ∃ c, b = some c ∧ VR ρ σ x c) (hhn : hi = none → b = none) :
    ∃ z, (Instr.sliceAt t (.string s) a b none).run P w = .ok z w ∧ VR ρ σ v z := by
  have hsz : s.size = l.length := by rw [← hs]; simp [strL]
  simp only [Instr.sliceAt, Instr.slice, Sem.run_bind, run_underlying ht, Result.andThen_ok, Option.isSome_none, Bool.false_eq_true, if_false, Instr.sliceBounds, Sem.run_pure]
  unfold cutS at h
  split at h
  · cases h
    rw [hln rfl, hhn rfl]
    refine ⟨_, rfl, .s ?_⟩
    show strL _ = _
    rw [extract_L, hs, hsz]; simp
  · cases h
    obtain ⟨c, rfl, hc⟩ := hlo _ rfl
    rw [hhn rfl]
    simp only [Sem.run_pure, Result.andThen_ok, Sem.run_bind]
    rw [bound_ok hc hC.1 (by rw [hsz]; exact hC.2.1)]
    refine ⟨_, rfl, .s ?_⟩
    show strL _ = _
    rw [extract_L, hs, hsz]; simp
  · cases h
    obtain ⟨c, rfl, hc⟩ := hhi _ rfl
    rw [hln rfl]
    simp only [Sem.run_pure, Result.andThen_ok, Sem.run_bind]
    rw [bound_ok hc hC.1 (by rw [hsz]; exact hC.2.1)]
    refine ⟨_, rfl, .s ?_⟩
    show strL _ = _
    rw [extract_L, hs]; simp
  · cases h
    rename_i k1 n1 k2 n2
    obtain ⟨c, rfl, hc⟩ := hlo _ rfl
    obtain ⟨c', rfl, hc'⟩ := hhi _ rfl
    obtain ⟨h1, h2, h3, _⟩ := hC
    simp only [Sem.run_pure, Result.andThen_ok, Sem.run_bind]
    rw [bound_ok hc' (by omega) (by rw [hsz]; exact h3)]
    simp only [Result.andThen_ok]
    rw [bound_ok hc h1 (by omega)]
    refine ⟨_, rfl, .s ?_⟩
    show strL _ = _
    rw [extract_L, hs]
  · cases h

/-- Whole numbers in a row: the least, the greatest. -/
def foldI (f : Int → Int → Int) (k : IntKind) : Int → List V → Option Int
  | a, [] => some a
  | a, .i k' b :: r => if kEq k k' then foldI f k (f a b) r else none
  | _, _ => none
def minA : List V → Option V
  | .i k a :: r => (foldI imin k a r).map (.i k)
  | _ => none
def maxA : List V → Option V
  | .i k a :: r => (foldI imax k a r).map (.i k)
  | _ => none

theorem imin_ok {k a b} (ha : okInt k a) (hb : okInt k b) : okInt k (imin a b) := by unfold imin; split <;> assumption
theorem imax_ok {k a b} (ha : okInt k a) (hb : okInt k b) : okInt k (imax a b) := by unfold imax; split <;> assumption

theorem fold_ok {ρ σ P} (w : World) {f : Int → Int → Int} {g : Value → Value → Sem Value} {k : IntKind}
    (hf : ∀ a b, (g (.int k a) (.int k b)).run P w = .ok (.int k (f a b)) w) (hk : ∀ {a b}, okInt k a → okInt k b → okInt k (f a b)) :
    ∀ (l : List V) (cs : List Value) (a r : Int), foldI f k a l = some r → okInt k a → l.length = cs.length → (∀ i (hi : i < cs.length), VR ρ σ (l.getD i .u) cs[i]) →
      (cs.foldlM g (.int k a)).run P w = .ok (.int k r) w ∧ okInt k r := by
  intro l
  induction l with
  | nil =>
    intro cs a r h ha hl _
    cases cs with
    | nil => simp only [foldI, Option.some.injEq] at h; subst h; exact ⟨rfl, ha⟩
    | cons => simp at hl
  | cons x l ih =>
    intro cs a r h ha hl hv
    cases cs with
    | nil => simp at hl
    | cons c cs =>
      have h0 := hv 0 (by simp)
      simp only [List.getD_cons_zero, List.getElem_cons_zero] at h0
      unfold foldI at h
      split at h
      · rename_i heq; cases heq
      · rename_i heq
        cases heq
        split at h
        · rename_i hkk
          have := kEq_eq hkk; subst this
          cases h0
          rename_i hb
          simp only [List.foldlM_cons, Sem.run_bind, hf, Result.andThen_ok]
          exact ih cs _ r h (hk ha hb) (by simpa using hl) (fun i hi => hv (i + 1) (by simpa using hi))
        · cases h
      · cases h

theorem minA_ok {ρ σ P l v} {cs : Array Value} (h : minA l = some v) (hl : l.length = cs.size) (hv : ∀ i (hi : i < cs.size), VR ρ σ (l.getD i .u) cs[i]) (ty t) (w : World) :
    ∃ z, (Builtin.min_ ty t cs).run P w = .ok z w ∧ VR ρ σ v z := by
  obtain ⟨cs⟩ := cs
  simp only [List.size_toArray, List.getElem_toArray] at hl hv
  unfold minA at h
  split at h
  · rename_i k a r
    cases cs with
    | nil => simp at hl
    | cons c cs =>
      have h0 := hv 0 (by simp)
      simp only [List.getD_cons_zero, List.getElem_cons_zero] at h0
      cases h0
      rename_i ha
      cases hf : foldI imin k a r with
      | none => rw [hf] at h; cases h
      | some q =>
        rw [hf] at h; cases h
        obtain ⟨h1, h2⟩ := fold_ok (ρ := ρ) (σ := σ) (P := P) w (g := Builtin.min2) (fun _ _ => rfl) (@imin_ok k) r cs a q hf ha (by simpa using hl) (fun i hi => by simpa using hv (i + 1) (by simpa using hi))
        exact ⟨_, h1, .i h2⟩
  · cases h
theorem maxA_ok {ρ σ P l v} {cs : Array Value} (h : maxA l = some v) (hl : l.length = cs.size) (hv : ∀ i (hi : i < cs.size), VR ρ σ (l.getD i .u) cs[i]) (ty t) (w : World) :
    ∃ z, (Builtin.max_ ty t cs).run P w = .ok z w ∧ VR ρ σ v z := by
  obtain ⟨cs⟩ := cs
  simp only [List.size_toArray, List.getElem_toArray] at hl hv
  unfold maxA at h
  split at h
  · rename_i k a r
    cases cs with
    | nil => simp at hl
    | cons c cs =>
      have h0 := hv 0 (by simp)
      simp only [List.getD_cons_zero, List.getElem_cons_zero] at h0
      cases h0
      rename_i ha
      cases hf : foldI imax k a r with
      | none => rw [hf] at h; cases h
      | some q =>
        rw [hf] at h; cases h
        obtain ⟨h1, h2⟩ := fold_ok (ρ := ρ) (σ := σ) (P := P) w (g := Builtin.max2) (fun _ _ => rfl) (@imax_ok k) r cs a q hf ha (by simpa using hl) (fun i hi => by simpa using hv (i + 1) (by simpa using hi))
        exact ⟨_, h1, .i h2⟩
  · cases h

/-- Places of fields. -/
def fieldOf (P : Program) (s : TypeId) (f : Nat) : Option Field :=
  match P.underlying s with
  | some (.struct fs) => fs.toList[f]?
  | _ => none

def fieldA (P : Program) (s : TypeId) (x : V) (f : Nat) : Option V :=
  match fieldOf P s f with
  | some fd => match P.info? fd.type with
    | some i => if i.size == 0 then none else match x with
      | .p id idx sub => some (.p id idx (sub + fd.offset))
      | .rp α size enc d l idx sub => some (.rp α size enc d l idx (sub + fd.offset))
      | _ => none
    | none => none
  | none => none

theorem fieldA_ok {ρ σ P s x a f v} (h : fieldA P s x f = some v) (hx : VR ρ σ x a) (w : World) :
    ∃ z, (Instr.fieldAt s a f).run P w = .ok z w ∧ VR ρ σ v z := by
  unfold fieldA at h
  split at h
  · rename_i fd hfd
    split at h
    · rename_i i hi
      split at h
      · cases h
      · rename_i hz
        unfold fieldOf at hfd
        split at hfd
        · rename_i fs hu
          simp only [Instr.fieldAt, Sem.run_bind, run_underlying hu, Result.andThen_ok]
          have : fs[f]? = some fd := by rw [← hfd]; simp
          simp only [this, Sem.run_bind, Sem.run_pure, Result.andThen_ok]
          have hz' : ¬ i.size = 0 := by simpa using hz
          split at h
          · cases h; cases hx
            rename_i L hL
            simp only [Instr.sureAddr, Sem.run_pure, Result.andThen_ok, fieldPlace, Sem.run_bind, run_sizeOf hi, if_neg hz', add_at]
            exact ⟨_, rfl, by rw [Nat.add_assoc]; exact .p hL⟩
          · cases h; cases hx
            rename_i r off g hr hv
            simp only [Instr.sureAddr, Sem.run_pure, Result.andThen_ok, fieldPlace, Sem.run_bind, run_sizeOf hi, if_neg hz', add_at]
            refine ⟨_, rfl, ?_⟩
            rw [Nat.add_assoc, Nat.add_assoc]; exact .rp g hr hv
          · cases h
        · cases hfd
    · cases h
  · cases h

/-- A part of a struct that is held as a value. -/
def partA (P : Program) (t : TypeId) (l : List V) (off : Nat) : Option V :=
  match P.info? t, P.underlying t with
  | some i, some d =>
    if isAggD d then (if ((l.drop off).take i.size).length == i.size then some (.agg ((l.drop off).take i.size)) else none)
    else (if Nat.ble (off + 1) l.length then some (l.getD off .u) else none)
  | _, _ => none

theorem partA_ok {ρ σ P t l off v} {cs : Array Value} (h : partA P t l off = some v) (hl : l.length = cs.size)
    (hv : ∀ i (hi : i < cs.size), VR ρ σ (l.getD i .u) cs[i]) (w : World) :
    ∃ z, (part t cs off).run P w = .ok z w ∧ VR ρ σ v z := by
  unfold partA at h
  split at h
  · rename_i i d hi hd
    simp only [part, Sem.run_bind, run_isAgg hd, Result.andThen_ok]
    split at h
    · rename_i hag
      split at h
      · rename_i hc
        cases h
        simp only [beq_iff_eq] at hc
        simp only [hag, if_true, Sem.run_bind, run_sizeOf hi, Result.andThen_ok, Sem.run_pure]
        have hc' : min i.size (l.length - off) = i.size := by simpa using hc
        refine ⟨_, rfl, .agg (by rw [hc]; simp; omega) fun k hk => ?_⟩
        have hk' : k < i.size ∧ off + k < cs.size := by simp at hk; omega
        have e : ((l.drop off).take i.size).getD k .u = l.getD (off + k) .u := by
          simp only [List.getD_eq_getElem?_getD, List.getElem?_take, List.getElem?_drop, if_pos hk'.1]
        rw [e]
        simp only [Array.getElem_extract]
        exact hv (off + k) hk'.2
      · cases h
    · rename_i hag
      split at h
      · rename_i hc
        cases h
        simp only [Nat.ble_eq] at hc
        simp only [hag, Bool.false_eq_true, if_false]
        have : cs[off]? = some (cs[off]'(by omega)) := Array.getElem?_eq_getElem (by omega)
        simp only [this, Sem.run_pure]
        exact ⟨_, rfl, hv off (by omega)⟩
      · cases h
  · cases h

end Go.Proofs.YtiekchfipaiflaaGreatDoor
