/- The listed tables of tickertape/cell, and the statement of TermWide joined to its law. -/
import Derived.Test.YtiekchfipaiflaaGreatDoorNa
import Derived.Test.YtiekchfipaiflaaGreatDoorT4
namespace Go.Proofs.YtiekchfipaiflaaGreatDoor
open Go Go.ChangeShapes Go.WideShapes Go.ChangeAt Go.RowKit

theorem own : ownKnob Tryz.prog.godebug = none := by kernel_rfl
def l_none : List (Int × Int) := [(0, 31), (127, 159), (768, 879), (55296, 57343)]
def l_wide : List (Int × Int) := [(4352, 4447), (11904, 42191), (44032, 55203), (63744, 64255), (65072, 65135), (65280, 65376), (65504, 65510), (127744, 128591), (129280, 129535), (131072, 262141)]
theorem d_none : (Rows.laid_tickertape_cell_none : DataW Unit) = .agg (l_none.map pairD) := by kernel_rfl
theorem d_wide : (Rows.laid_tickertape_cell_wide : DataW Unit) = .agg (l_wide.map pairD) := by kernel_rfl

theorem ht_none : (Tryz.prog.globals[0]?).map (·.type) = some 154 := by kernel_rfl
theorem ht_wide : (Tryz.prog.globals[1]?).map (·.type) = some 155 := by kernel_rfl

theorem span_rp {ρ : Mem} {σ : Sig} {g : Nat} {l : List (Int × Int)} {sl : List cell_span} (hl : sl.length = l.length) (hs : ∀ k (hk : k < l.length), sl.getD k zero_cell_span = ⟨l[k].1, l[k].2⟩)
    (h : ∀ k (hk : k < l.length), (rd ρ (some ⟨g, 0, none⟩) (k * 2 + 0) = some (.int .i32 l[k].1) ∧ okInt .i32 l[k].1) ∧ (rd ρ (some ⟨g, 0, none⟩) (k * 2 + 1) = some (.int .i32 l[k].2) ∧ okInt .i32 l[k].2)) :
    VR ρ σ (.rp cell_span 2 enc_cell_span zero_cell_span sl 0 0) (.pointer (some ⟨g, 0, none⟩)) := by
  have := VR.rp (ρ := ρ) (σ := σ) (α := cell_span) (size := 2) (enc := enc_cell_span) (d := zero_cell_span) (l := sl) (idx := 0) (sub := 0) (r := g) (off := 0)
    (fun k j => match j with
      | 0 => .int .i32 (l.getD k (0, 0)).1
      | _ => .int .i32 (l.getD k (0, 0)).2) (by
      intro k hk j hj
      have hk' : k < l.length := by omega
      obtain ⟨⟨h0, _⟩, h1, _⟩ := h k hk'
      match j with
      | 0 => rw [h0]; simp [List.getD, hk']
      | 1 => rw [h1]; simp [List.getD, hk']
      | j + 2 => omega) (by
      intro k hk j hj
      have hk' : k < l.length := by omega
      obtain ⟨⟨_, h0⟩, _, h1⟩ := h k hk'
      rw [hs k hk']
      match j with
      | 0 => simp only [enc_cell_span, List.getD, hk', List.getElem?_eq_getElem, Option.getD_some, List.getElem?_cons_zero]; exact .i h0
      | 1 => simp only [enc_cell_span, List.getD, hk', List.getElem?_eq_getElem, Option.getD_some, List.getElem?_cons_zero, List.getElem?_cons_succ]; exact .i h1
      | j + 2 => omega)
  simpa using this

theorem GR_of_laid {W : World} (h : laidMetH Tryz.prog Rows.termWideRow.laid W) : GR G0 (memW W) := by
  rw [MakeChecks.laidMetH_plain _ _ _ (by kernel_rfl)] at h
  obtain ⟨ps, ⟨_, _, _, _, _, _, _, _, _, _, ⟨_, _, _, _, _, _, _, _, _, _, ⟨_, _, _, _, _, _, _, _, _, _, ⟨g1, t1, cs1, f1, p1, q1, hg1, ht1, hv1, hd1, ⟨g0, t0, cs0, f0, p0, q0, hg0, ht0, hv0, hd0, _, _⟩, _⟩, _⟩, _⟩, _⟩, _, _⟩ := h
  obtain rfl := Option.some.inj ((show Tryz.prog.globalNamed "tickertape/cell.none" = some 0 by kernel_rfl).symm.trans hg0)
  obtain rfl := Option.some.inj ((show Tryz.prog.globalNamed "tickertape/cell.wide" = some 1 by kernel_rfl).symm.trans hg1)
  obtain rfl := Option.some.inj (ht_none.symm.trans ht0)
  obtain rfl := Option.some.inj (ht_wide.symm.trans ht1)
  rw [d_none] at hd0
  rw [d_wide] at hd1
  have c0 := pairs_cells (n := 4) (e := 153) Tryz.underlying154 Tryz.underlying153 rfl Tryz.underlying21 Tryz.underlying21 rfl rfl (by kernel_rfl) (by kernel_rfl) (by kernel_rfl) hd0
  have c1 := pairs_cells (n := 10) (e := 153) Tryz.underlying155 Tryz.underlying153 rfl Tryz.underlying21 Tryz.underlying21 rfl rfl (by kernel_rfl) (by kernel_rfl) (by kernel_rfl) hd1
  intro g v hv
  match g with
  | 0 =>
    cases hv
    refine span_rp (l := l_none) rfl ?_ ?_
    · intro k hk
      have : ∀ k, k < 4 → g_none.getD k zero_cell_span = ⟨(l_none.getD k (0, 0)).1, (l_none.getD k (0, 0)).2⟩ := by decide
      have h2 := this k hk
      simpa [List.getD, hk] using h2
    · intro k hk
      have := c0 k hk
      rw [rd_var hg0 hv0, rd_var hg0 hv0]
      simpa using this
  | 1 =>
    cases hv
    refine span_rp (l := l_wide) rfl ?_ ?_
    · intro k hk
      have : ∀ k, k < 10 → g_wide.getD k zero_cell_span = ⟨(l_wide.getD k (0, 0)).1, (l_wide.getD k (0, 0)).2⟩ := by decide
      have h2 := this k hk
      simpa [List.getD, hk] using h2
    · intro k hk
      have := c1 k hk
      rw [rd_var hg1 hv1, rd_var hg1 hv1]
      simpa using this
  | g + 2 => simp [G0] at hv

set_option maxRecDepth 100000 in
theorem wide_lifted (law : ∀ a b c : Int, inR b → ∃ f, F4 f a b c = some true) (os : Os) (started : os.Started) (H : Type) (enc : TypeId × Value → H) :
    ReturnsInHanded {} Tryz.checked os 4 .any (fun w args => (Rows.termWideSpec.pre enc Tryz.prog Tryz.f4 [] false w args ∧ laidMetH Tryz.prog Rows.termWideRow.laid w) ∧ sizedMet enc Tryz.prog Tryz.f4 (OpenSpec.ofChange Rows.termWideSpec) false w args)
      (Rows.termWideSpec.post enc Tryz.prog Tryz.f4 false true false false) := by
  refine returnsInHanded_of_change_and (C := Tryz.checked) (X := fun w _ => laidMetH Tryz.prog Rows.termWideRow.laid w) (fun _ _ _ hh h => h.of_heap hh) own started (by kernel_rfl) Tryz.func4
    (ChangeSpec.witness_shaped (enc := enc) (C := Tryz.checked) (os := os) (X := fun w _ => laidMetH Tryz.prog Rows.termWideRow.laid w) false (World.laidAll Tryz.prog os Rows.termWideRow.laid) #[.int .i64 0, .int .i64 0, .int .i64 0] 8 (World.laidAll_os _ _ _)
      (World.shaped_of_ZipB (by kernel_rfl) (by kernel_rfl)) (by kernel_rfl) (by kernel_rfl) (by kernel_rfl)
      (by rw [MakeChecks.laidMetH_plain _ _ _ (by kernel_rfl)]; exact laidMet_laidAll _ (by kernel_rfl) (by kernel_rfl))) ?_
  intro W base args ds gs before hval0 hW _ _ hL _
  have hval : ∀ (j : Nat) t v, Tryz.f4.params[j]? = some t → args[j]? = some v → Value.okWide Tryz.prog W .any base t v := hval0
  have hW' := hW
  obtain ⟨p, q, hA0, hV, rfl, _, _⟩ := hW
  have hA : DataW.TrodAll enc Tryz.prog W 0 (fun _ => true) true Tryz.f4.params.toList args.toList ds p := hA0
  rw [Tryz.params4] at hA hval
  obtain ⟨v0, v1, v2, d0, d1, d2, _, _, _, rfl, rfl, rfl, h0, h1, h2⟩ := trodAll_three hA
  obtain ⟨rfl, rfl⟩ := trodVars_none hV
  obtain ⟨x0, rfl, rfl, rfl, wx0⟩ := open_int Tryz.underlying3 (hval 0 3 v0 rfl rfl) h0
  obtain ⟨x1, rfl, rfl, rfl, wx1⟩ := open_int Tryz.underlying3 (hval 1 3 v1 rfl rfl) h1
  obtain ⟨x2, rfl, rfl, rfl, wx2⟩ := open_int Tryz.underlying3 (hval 2 3 v2 rfl rfl) h2
  simp only [List.append_nil] at hW'
  obtain ⟨f, hf⟩ := law x0 x1 x2 (by simp only [Lit.wf, Bool.and_eq_true, decide_eq_true_eq] at wx1; exact wx1)
  have hVR : VRs (memW W) noSig [.i .i64 x0, .i .i64 x1, .i .i64 x2] #[.int .i64 x0, .int .i64 x1, .int .i64 x2] := by
    refine ⟨rfl, fun i hi => ?_⟩
    match i with
    | 0 => exact .i (.inl rfl)
    | 1 => exact .i (.inl rfl)
    | 2 => exact .i (.inl rfl)
    | i + 3 => exact absurd hi (by simp)
  refine (calls_of_spec (F4_ok hf) (GR_of_laid hL) hVR).mono fun e W' ⟨he, hio, hold⟩ => ?_
  subst he
  exact ⟨_, rfl, post_of_old (pa := []) (pv := []) hW' (fun _ _ _ => trodAll_mk1 (shut_bool Tryz.underlying4 _)) (fun sp _ => trodAll_mk3 (shut_int Tryz.underlying3 wx0) (shut_int Tryz.underlying3 wx1) (shut_int Tryz.underlying3 wx2)) (fun _ _ => rfl) rfl (keptBut_of hio hold) (frozen_of hold) (ok_one (by kernel_rfl) rfl (okWide_bool_mk Tryz.underlying4 _))⟩

theorem wide_said (law : ∀ a b c : Int, inR b → ∃ f, F4 f a b c = some true) : Rows.TermWideSaid :=
  OpenClaim.holds_of_wide 4 Tryz.f4 rfl rfl rfl rfl rfl rfl rfl ⟨rfl, rfl, rfl, rfl, rfl⟩ rfl rfl rfl rfl rfl (by kernel_rfl) Tryz.func4 (by kernel_rfl)
    (of_decide_eq_true (by kernel_rfl)) (by unfold Func.isWrapper; first | (rw [if_pos (by decide +kernel)]; kernel_rfl) | (rw [if_neg (by decide +kernel)]; exact ⟨rfl, rfl⟩))
    (fun os started H enc _ => wide_lifted law os started H enc)

theorem wide_card (law : ∀ a b c : Int, inR b → ∃ f, F4 f a b c = some true) : Rows.TermWideCardSaid :=
  Claim7.holds_tied_plain_at .later [] [.data, .data, .data, .widerDeep, .widerDeep, .data, .pinned] true (true, "9bc957bae79e9e6bc37ea70595c118f646773ad82e27f6808906c738bdeba654") false
    (wide_said law) (fun _ h => by cases h) (by kernel_rfl) (fun _ h => by cases h) termWide_row_tie rfl ⟨rfl, rfl⟩ (by kernel_rfl) rfl
    (fun f fn hf hfn => by
      obtain rfl : f = 4 := Option.some.inj ((show Tryz.prog.funcNamed "tickertape/tiklaw12.TermWide" = some 4 by kernel_rfl).symm.trans hf) |>.symm
      obtain rfl : fn = Tryz.f4 := (Option.some.inj (Tryz.func4.symm.trans hfn)).symm
      exact ⟨by kernel_rfl, fun j t ht => by
        rw [Tryz.params4] at ht
        have hm : t ∈ [3, 3, 3] := by simpa using Array.mem_of_getElem? ht
        have hall : ([3, 3, 3].all fun u => !Tryz.prog.wantsStandIn u) = true := by kernel_rfl
        exact (show Tryz.prog.wantsStandIn t = false by simpa using List.all_eq_true.1 hall t hm)⟩)
    (by kernel_rfl)
end Go.Proofs.YtiekchfipaiflaaGreatDoor
