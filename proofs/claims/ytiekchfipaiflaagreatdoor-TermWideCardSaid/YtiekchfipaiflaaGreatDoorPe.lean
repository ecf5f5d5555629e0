/- TermWide answers true. -/
import Derived.Test.YtiekchfipaiflaaGreatDoorPd
namespace Go.Proofs.YtiekchfipaiflaaGreatDoor
open Go

def evW : esc_Event := ⟨1, 19968, [], 0, 0, 0, []⟩
structure FuelW (f : Nat) : Prop extends Fuel f where
  signs : F26 f signs0 3 [228, 184, 128] = some (signs0, 1, [19968])
  asks : F25 f asks0 1 [19968] = some (asks0, 1, [evW])
  first : F8 f = some true

theorem F27_w {f : Nat} (t : term_TermO_2) : F27 f t evW = F42 f t 19968 := by
  unfold F27
  rw [show decide (evW.Kind = 1) = true from rfl, ifb_t]
  show bnd (F42 f t 19968) (fun r1 => some r1) = _
  cases F42 f t 19968 <;> rfl

theorem F10_w {f : Nat} (hf : FuelW f) {t t' : term_TermO_2} (h1 : t.signs = signs0) (h2 : t.asks = asks0) (h : F42 f t 19968 = some t') : F10 f t 3 [228, 184, 128] = some t' := by
  unfold F10
  rw [h1, h2, hf.signs, bnd_s]
  rw [show F25 f asks0 (signs0, (1 : Nat), [(19968 : Int)]).2.1 (signs0, (1 : Nat), [(19968 : Int)]).2.2 = some (asks0, 1, [evW]) from hf.asks, bnd_s]
  have ht : ({ t with signs := (signs0, (1 : Nat), [(19968 : Int)]).1, asks := (asks0, (1 : Nat), [evW]).1 } : term_TermO_2) = t := by cases t; simp at h1 h2; subst h1; subst h2; rfl
  rw [ht]
  have loop : ∀ j, F10_p1 f (asks0, (1 : Nat), [evW]) [228, 184, 128] (j + 2) t 0 = some t' := by
    intro j
    show F10_p1_b f (F10_p1 f (asks0, (1 : Nat), [evW]) [228, 184, 128] (j + 1)) (asks0, (1 : Nat), [evW]) [228, 184, 128] t 0 = _
    unfold F10_p1_b
    rw [show decide ((0 : Int) < (((asks0, (1 : Nat), [evW]).2.1 : Nat) : Int)) = true from rfl, ifb_t, chk_t (by decide), chk_t (by decide), chk_t (by simp)]
    rw [show ((asks0, (1 : Nat), [evW]).2.2.getD (0 + (0 : Int).toNat) zero_esc_Event) = evW from rfl, F27_w, h, bnd_s, chk_t (by decide)]
    show F10_p1_b f (F10_p1 f (asks0, (1 : Nat), [evW]) [228, 184, 128] j) (asks0, (1 : Nat), [evW]) [228, 184, 128] t' 1 = _
    unfold F10_p1_b
    rw [show decide ((1 : Int) < (((asks0, (1 : Nat), [evW]).2.1 : Nat) : Int)) = false from rfl, ifb_f]
  obtain ⟨j, hj⟩ : ∃ j, f = j + 2 := ⟨f - 2, by have := hf.big; omega⟩
  have := loop j
  rw [← hj] at this
  exact this

theorem loop_w {f : Nat} (hf : FuelW f) {r h n : Nat} {s g1} (r1 : 1 ≤ r) (hr : r ≤ 60) (h1 : 1 ≤ h) (hh : 2 * h ≤ 200) (hn : n ≤ r * h)
    (fin : ∀ j row col p, F4_p1_b f (F4_p1 f (n : Int) (r : Int) (h : Int) j) (n : Int) (r : Int) (h : Int) (termW r h s g1 n row col p) (n : Int) = some true) :
    ∀ (j k row col : Nat) (p : Bool), k ≤ n → InvW r h k row col p → n - k < j → F4_p1 f (n : Int) (r : Int) (h : Int) j (termW r h s g1 k row col p) (k : Int) = some true := by
  intro j; induction j with
  | zero => intro k row col p _ _ h; omega
  | succ j ih =>
    intro k row col p hk hI hj
    show F4_p1_b f (F4_p1 f (n : Int) (r : Int) (h : Int) j) (n : Int) (r : Int) (h : Int) (termW r h s g1 k row col p) (k : Int) = _
    by_cases hkn : k = n
    · subst hkn; exact fin j row col p
    · obtain ⟨row', col', p', h2, h3⟩ := F42_w hf.toFuel (s := s) (g1 := g1) r1 hr h1 hh (by omega) hI
      unfold F4_p1_b
      have hlt : (k : Int) < (n : Int) := by omega
      have h4 := size_le (r := r) (c := h) hr (by omega)
      rw [decide_eq_true hlt, ifb_t, F10_w hf rfl rfl h2, bnd_s, chk_t (inR_small (by omega) (by omega)), show ((k : Int) + 1) = ((k + 1 : Nat) : Int) by omega]
      exact ih (k + 1) row' col' p' (by omega) h3 (by omega)

theorem F4_p3_w {f : Nat} {g2 : Int → Option Bool} {x : Nat} {S : screen_ScreenO} {a2 : Int} {c : cell_Cell} (hN : S.Cells_n ≤ 12000) (h1 : x < S.Cells_n) (h2 : x < S.Cells.length) (hc : S.Cells.getD x zero_cell_Cell = c) :
    F4_p3 f g2 (x : Int) S a2 c = g2 ((x : Int) + 1) := by
  unfold F4_p3
  simp only [Nat.zero_add, Int.toNat_natCast, hc, decide_true, Bool.and_true, Bool.not_true, ifb_f]
  rw [chk_t (by omega), chk_t (by omega), chk_t (by omega), chk_t (inR_small (by omega) (by omega))]

theorem cells_w {f : Nat} (hf : FuelW f) {N n : Nat} {S : screen_ScreenO} (hN : N ≤ 12000) (e1 : S.Cells_n = N) (e2 : S.Cells = cellsL N n) :
    ∀ (j x : Nat), x ≤ N → N - x < j → F4_p2 f S (n : Int) j (x : Int) = some true := by
  intro j; induction j with
  | zero => intro x _ h; omega
  | succ j ih =>
    intro x hx hj
    show F4_p2_b f (F4_p2 f S (n : Int) j) S (n : Int) (x : Int) = _
    unfold F4_p2_b
    rw [e1]
    by_cases h : x < N
    · have hlt : (x : Int) < (N : Int) := by omega
      have hd : Int.tdiv (x : Int) 2 = ((x / 2 : Nat) : Int) := rfl
      have hm : Int.tmod (x : Int) 2 = ((x % 2 : Nat) : Int) := rfl
      have hget : S.Cells.getD x zero_cell_Cell = cellAt n x := by rw [e2]; exact cellsL_getD h
      have hlen : x < S.Cells.length := by rw [e2, cellsL_len]; exact h
      have go : F4_p2 f S (n : Int) j ((x : Int) + 1) = some true := by
        rw [show ((x : Int) + 1) = ((x + 1 : Nat) : Int) by omega]; exact ih (x + 1) (by omega) (by omega)
      unfold F13
      rw [decide_eq_true hlt, ifb_t, bnd_s, hd, hm, chk_t (inR_small (by omega) (by omega))]
      by_cases h3 : x / 2 < n
      · have h4 : ((x / 2 : Nat) : Int) < (n : Int) := by omega
        rw [decide_eq_true h4, ifb_t]
        by_cases h5 : x % 2 = 1
        · have h6 : ((x % 2 : Nat) : Int) = 1 := by omega
          rw [decide_eq_true h6, ifb_t, F4_p3_w (by omega) (by omega) hlen (by rw [hget]; unfold cellAt; rw [if_pos h3, if_pos h5]; rfl)]
          exact go
        · have h6 : ¬ ((x % 2 : Nat) : Int) = 1 := by omega
          rw [decide_eq_false h6, ifb_f, F4_p3_w (by omega) (by omega) hlen (by rw [hget]; unfold cellAt; rw [if_pos h3, if_neg h5]; rfl)]
          exact go
      · have h4 : ¬ ((x / 2 : Nat) : Int) < (n : Int) := by omega
        rw [decide_eq_false h4, ifb_f, F4_p3_w (by omega) (by omega) hlen (by rw [hget]; unfold cellAt; rw [if_neg h3]; rfl)]
        exact go
    · have hlt : ¬ (x : Int) < (N : Int) := by omega
      rw [decide_eq_false hlt, ifb_f, hf.first, bnd_s]

theorem F11_w {f r h k row col : Nat} {p s g1} (hN : r * (2 * h) ≤ 12000) : ∃ S, F11 f (termW r h s g1 k row col p) = some S ∧ S.Cells_n = r * (2 * h) ∧ S.Cells = cellsL (r * (2 * h)) k := by
  have hl := cellsL_len (r * (2 * h)) k
  unfold F11 F28 termW
  simp only [decide_true, ifb_t, bnd_s, sm_l]
  unfold F29 F47_1
  have e : ((cellsL (r * (2 * h)) k).drop 0).take (r * (2 * h)) = cellsL (r * (2 * h)) k := by rw [List.drop_zero, List.take_of_length_le (by omega)]
  simp only [e]
  rw [chk_t (by omega), chk_t (by omega)]
  simp only [bnd_s]
  exact ⟨_, rfl, by simp [hl], by simp⟩

theorem fin_w {f : Nat} (hf : FuelW f) {r h n : Nat} {s g1} (hr : r ≤ 60) (hh : 2 * h ≤ 200) (g : Int → Option Bool) (G : term_TermO_2 → Int → Option Bool) (row col : Nat) (p : Bool) :
    F4_p1_b f G (n : Int) (r : Int) (h : Int) (termW r h s g1 n row col p) (n : Int) = some true := by
  have hN := size_le hr hh
  obtain ⟨S, e0, e1, e2⟩ := F11_w (f := f) (k := n) (row := row) (col := col) (p := p) (s := s) (g1 := g1) hN
  unfold F4_p1_b
  rw [decide_eq_false (show ¬ (n : Int) < (n : Int) by omega), ifb_f, e0, bnd_s]
  have hw : wr (wr (2 * (r : Int)) * (h : Int)) = ((r * (2 * h) : Nat) : Int) := by
    rw [show (2 * (r : Int)) = ((2 * r : Nat) : Int) by omega, wr_small (n := ((2 * r : Nat) : Int)) (by omega) (by omega), ← Int.natCast_mul, show 2 * r * h = r * (2 * h) by rw [Nat.mul_comm 2 r, Nat.mul_assoc]]
    exact wr_small (by omega) (by omega)
  rw [e1, hw, decide_eq_true rfl]
  simp only [Bool.not_true, ifb_f]
  exact cells_w hf hN e1 e2 f 0 (by omega) (by have := hf.big; omega)

theorem wr_two {b : Int} (hb : inR b) (h1 : 1 ≤ b) (h : 1 ≤ wr (2 * b)) : wr (2 * b) = 2 * b := by
  unfold inR at hb
  by_cases h2 : 2 * b ≤ 9223372036854775807
  · exact wr_in (by unfold inR; omega)
  · exfalso
    simp only [wr, IntKind.wrap, IntKind.bits, IntKind.signed] at h
    simp at h
    omega

theorem F4_true {f : Nat} (hf : FuelW f) (a b c : Int) (hb : inR b) : F4 f a b c = some true := by
  unfold F4
  rw [hf.first, bnd_s]
  simp only [Bool.not_true, ifb_f]
  by_cases hfit : 1 ≤ a ∧ a ≤ 60 ∧ 1 ≤ wr (2 * b) ∧ wr (2 * b) ≤ 200
  · obtain ⟨ha, ha2, hc, hc2⟩ := hfit
    obtain ⟨r, rfl⟩ : ∃ r : Nat, a = r := ⟨a.toNat, by omega⟩
    obtain ⟨d, hd⟩ : ∃ d : Nat, wr (2 * b) = d := ⟨(wr (2 * b)).toNat, by omega⟩
    obtain ⟨s, hs⟩ := F9_ok' (f := f) (r := r) (c := d) (by omega) (by omega) (by omega) (by omega) (by have := hf.big; omega)
    rw [hd, hs, bnd_s, sm_r]
    rw [show decide ((term0 r d s, (0 : Int)).2 = 0) = true from rfl]
    simp only [Bool.not_true, Bool.false_or]
    by_cases hcond : (((decide (b < 1) || decide (c < 0)) || decide (c > wr ((r : Int) * b))) || decide (c > 100)) = true
    · rw [hcond, ifb_t, bnd_s]
    · have hcond' := Bool.eq_false_iff.2 hcond
      rw [hcond', ifb_f]
      simp only [Bool.or_eq_false_iff, decide_eq_false_iff_not] at hcond'
      obtain ⟨⟨⟨q1, q2⟩, q3⟩, q4⟩ := hcond'
      have e2 := wr_two hb (by omega) hc
      obtain ⟨h, rfl⟩ : ∃ h : Nat, b = h := ⟨b.toNat, by omega⟩
      obtain ⟨n, rfl⟩ : ∃ n : Nat, c = n := ⟨c.toNat, by omega⟩
      have hdh : d = 2 * h := by omega
      subst hdh
      rw [wr_mul (by omega) (by omega)] at q3
      have : term0 r (2 * h) s = termW r h s ⟨r, (2 * h : Nat), r * (2 * h), List.replicate (r * (2 * h)) b0⟩ 0 0 0 false := by
        unfold term0 termW
        rw [cellsL_zero]; rfl
      show F4_p1 f (n : Int) (r : Int) (h : Int) f (term0 r (2 * h) s) 0 = _
      rw [this]
      exact loop_w hf (by omega) (by omega) (by omega) (by omega) (by omega) (fun j row col p => fin_w hf (by omega) (by omega) (fun _ => none) _ row col p) f 0 0 0 false (by omega) ⟨by omega, .inl ⟨rfl, by omega, by omega⟩⟩ (by have := hf.big; omega)
  · rw [F9_no hfit, bnd_s, sm_l, bnd_s]

theorem fuelW : FuelW 100000 := by
  refine { big := by omega, wide := by kernel_rfl, may := by kernel_rfl, signs := by kernel_rfl, asks := by kernel_rfl, first := by kernel_rfl }
end Go.Proofs.YtiekchfipaiflaaGreatDoor
