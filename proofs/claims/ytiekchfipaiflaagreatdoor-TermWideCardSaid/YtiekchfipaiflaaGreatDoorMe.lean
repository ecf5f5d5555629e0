/- Ranging over a text: the walk's own object is kept in the frame, its place is told by what is left to read. -/
import Derived.Test.YtiekchfipaiflaaGreatDoorMd
import Derived.Laws.RangeString
namespace Go.Proofs.YtiekchfipaiflaaGreatDoor
open Go

def Cx.it (cx : Cx) (r : Nat) (s : ByteArray) (pos : Nat) : Cx := { cx with F := { cx.F with m := fun q => if q = r then some (.stringIter s pos) else cx.F q } }
def ptrV (r : Nat) : Value := .pointer (some ⟨r, 0, none⟩)
def iterR (s : ByteArray) (pos : Nat) (rest : List Int) : Prop := ∃ n, ((strL s).drop pos).length ≤ n ∧ rest = runesL n ((strL s).drop pos)

theorem then_mono {N N' : Act → World → Prop} {Q Q' : Exit → Act → World → Prop} (h : ∀ a w, N a w → N' a w) (h' : ∀ e a w, Q e a w → Q' e a w) : ∀ e a w, Exit.then N Q e a w → Exit.then N' Q' e a w := by
  intro e a w hq
  cases e <;> first | exact h a w hq | exact h' _ a w hq
theorem rounds_mono {F : Fence} {m : Nat} {P : Program} {c : Code} {Q Q' : Exit → Act → World → Prop} (h : ∀ e a w, Q e a w → Q' e a w) : ∀ n a w, Code.roundsIn F m P c Q n a w → Code.roundsIn F m P c Q' n a w := by
  intro n; induction n with
  | zero => intro a w hq; exact hq
  | succ n ih => intro a w hq; exact wpIn_mono hq (then_mono ih h)
theorem ExK_mono {ro : Option Nat} {P : Program} {Q Q' : Exit → Act → World → Prop} (h : ∀ e a w, Q e a w → Q' e a w) : ∀ (k : List It) e a w, ExK ro P Q k e a w → ExK ro P Q' k e a w := by
  intro k; induction k with
  | nil => exact h
  | cons x k ih =>
    cases x with
    | code c => exact then_mono (fun a w hq => wpIn_mono hq ih) ih
    | again I => exact then_mono (fun _ _ hq => hq) ih
    | rnd n c => exact then_mono (fun a w hq => rounds_mono ih n a w hq) ih
    | fin id =>
      intro e a w hq
      simp only [ExK] at hq ⊢
      cases e with
      | exit id' =>
        simp only [Exit.inBlock] at hq ⊢
        split
        · rename_i he; rw [if_pos he] at hq; exact ih _ _ _ hq
        · rename_i he; rw [if_neg he] at hq; exact ih _ _ _ hq
      | _ => exact ih _ _ _ hq

section
variable {P : Program} {G : Glob} {n K0 : Nat} {rs : List ResultVar} {v : V} {hs1 : List (Option Blk)} {cx : Cx}

theorem Cx.it_set (cx : Cx) (r : Nat) (s : ByteArray) (pos : Nat) : cx.it r s pos = cx.set r (.stringIter s pos) := rfl
theorem Cx.In.drop {r s pos E hs a w} (hr : cx.F r = none) (hρ : cx.ρ r = none) (h : (cx.it r s pos).In G n K0 E hs a w) : cx.In G n K0 E hs a w :=
  ⟨h.1, Cx.C.drop (a := a) (w := w) hr hρ ⟨⟨rfl, rfl⟩, fun _ _ => rfl⟩ rfl h.2⟩
theorem Cx.In.heap {r s pos E hs a w} (h : (cx.it r s pos).In G n K0 E hs a w) : w.heap[r]? = some (.stringIter s pos) := by
  obtain ⟨hd, ρ, σ, h1, h2, hB⟩ := h
  exact hB.inv.frame r _ (by simp [Cx.it])
theorem Cx.In.move {r s pos pos' E E' hs a a' w w'} (hρ : cx.ρ r = none) (hw : sameIO w w' ∧ ∀ q, q ≠ r → w'.heap[q]? = w.heap[q]?) (hr : w'.heap[r]? = some (.stringIter s pos')) (hd : a'.defers = a.defers)
    (hE : ∀ ρ σ, EnvR ρ σ (look E) n a.tmps → EnvR ρ σ (look E') n a'.tmps) (h : (cx.it r s pos).In G n K0 E hs a w) : (cx.it r s pos').In G n K0 E' hs a' w' :=
  ⟨hd.trans h.1, Cx.C.re (a := a) (w := w) hρ hw hr hE h.2⟩

theorem it_add (cx : Cx) (d r : Nat) (s : ByteArray) (pos : Nat) (h : d ≠ r) : (cx.it r s pos).add d = (cx.add d).it r s pos := by
  simp only [Cx.it, Cx.add]
  congr 2
  funext q
  by_cases h1 : q = d
  · subst h1; simp [h]
  · simp [h1]
theorem it_adds (cx : Cx) (r : Nat) (s : ByteArray) (pos : Nat) : ∀ ds, (cx.it r s pos).free ds → r ∉ ds ∧ (cx.it r s pos).adds ds = (cx.adds ds).it r s pos := by
  intro ds; induction ds with
  | nil => intro _; exact ⟨by simp, rfl⟩
  | cons d ds ih =>
    rintro ⟨h1, h2, h3⟩
    obtain ⟨h4, h5⟩ := ih h3
    rw [h5] at h1
    have hd : d ≠ r := fun e => by subst e; simp [Cx.it] at h1
    refine ⟨by simp only [List.mem_cons, not_or]; exact ⟨Ne.symm hd, h4⟩, ?_⟩
    simp only [Cx.adds]
    rw [h5]; exact it_add _ d r s pos hd
theorem adds_F (cx : Cx) {r : Nat} (hr : cx.F r = none) : ∀ ds, r ∉ ds → (cx.adds ds).F r = none := by
  intro ds; induction ds with
  | nil => intro _; exact hr
  | cons d ds ih =>
    intro h
    simp only [List.mem_cons, not_or] at h
    simp only [Cx.adds, Cx.add]
    rw [if_neg h.1]; exact ih h.2
theorem it_free (cx : Cx) (r : Nat) (s : ByteArray) (pos : Nat) : ∀ ds, (cx.it r s pos).free ds → cx.free ds := by
  intro ds; induction ds with
  | nil => intro _; trivial
  | cons d ds ih =>
    rintro ⟨h1, h2, h3⟩
    refine ⟨?_, h2, ih h3⟩
    rw [(it_adds cx r s pos ds h3).2] at h1
    simp only [Cx.it] at h1
    split at h1
    · cases h1
    · exact h1
theorem Cx.Q.drop {r s pos e a w} (hr : cx.F r = none) (hρ : cx.ρ r = none) (h : (cx.it r s pos).Q P G n K0 rs v hs1 e a w) : cx.Q P G n K0 rs v hs1 e a w := by
  obtain ⟨h1, ds, h2, E, h3, h4⟩ := h
  obtain ⟨h5, h6⟩ := it_adds cx r s pos ds h2
  refine ⟨h1, ds, it_free cx r s pos ds h2, E, h3, ?_⟩
  rw [h6] at h4
  exact h4.drop (adds_F cx hr ds h5) (by rw [Cx.adds_ρ]; exact hρ)

def WMI (P : Program) (G : Glob) (n K0 : Nat) (rs : List ResultVar) (v : V) (hs1 : List (Option Blk)) (cx : Cx) (r : Nat) (rest : List Int) (k : List It) (E : Env) (hs : List (Option Blk)) : Prop :=
  ∀ s pos, cx.F r = none → cx.ρ r = none → iterR s pos rest → ∀ a w, (cx.it r s pos).In G n K0 E hs a w → ExK cx.ro P (cx.Q P G n K0 rs v hs1) k .normal a w

theorem WMI.cut (hm : P.follows .mixedOrders = true) {r : Nat} {rest : List Int} {k E hs E' hs' k'} (an : List (PAnn P G)) (m : Map) {C : List Prop}
    (hC : allP C) (next : WMI P G n K0 rs v hs1 cx r rest k' E' hs')
    (h : lhsM (fullM P G n K0 k E hs an m E' hs') = rhsM false k' C (fullM P G n K0 k E hs an m E' hs')) : WMI P G n K0 rs v hs1 cx r rest k E hs :=
  fun s pos hF hρ hi => fullM_ok (cx := cx.it r s pos) hm h hC fun a w hin => next s pos hF hρ hi a w hin

def splitL : List Oper → Option (List Oper × Oper)
  | [] => none
  | [o] => some ([], o)
  | o :: r => match splitL r with
    | some (l, x) => some (o :: l, x)
    | none => none
theorem splitL_ok : ∀ {l : List Oper} {p x}, splitL l = some (p, x) → l = p ++ [x] := by
  intro l; induction l with
  | nil => intro p x h; cases h
  | cons o r ih =>
    intro p x h
    cases r with
    | nil => cases h; rfl
    | cons q r =>
      simp only [splitL] at h ih
      split at h
      · rename_i l y hy
        cases h
        rw [ih hy]; rfl
      · cases h

def rangeRun {P : Program} {G : Glob} (c : Code) (n : Nat) (an : List (RAnn P G)) (E : Env) (hs : List (Option Blk)) : Option (PSt × Nat × TypeId × V) :=
  match c with
  | .region _ ops false => match splitL ops.toList with
    | some (pre, ⟨some ti, .range T x, _, _, _, none⟩) => match dstsLow n ops.toList, gO (look E) x with
      | true, none => match runR ops.toList pre an ⟨[], [], [], E, hOf hs, hs.length⟩ with
        | some st => match gO (look st.env) x with
          | none => some (st, ti, T, evO G (look st.env) x)
          | _ => none
        | none => none
      | _, _ => none
    | _ => none
  | _ => none

theorem runR_okT {ρ0 : Mem} {σ0 : Sig} {F : Fr} {ops : Array Oper} {Q : Exit → Act → World → Prop} (hdst : ∀ o ∈ ops.toList, ∀ d, o.dst = some d → d < n) {tl : List Oper} :
    ∀ (os : List Oper) (k : Nat) (ans : List (RAnn P G)) (st st' : PSt) (ρ : Mem) (σ : Sig) (a : Act) (w : World),
      ops.toList.drop k = os ++ tl → runR ops.toList os ans st = some st' → allP st'.C → allS st'.S → allT st'.T →
      leR F ρ0 ρ → leS σ0 σ → Bears G ρ σ F n (look st.env) st.H st.N a w →
      (∀ ρ' σ' a' w', leR F ρ0 ρ' → leS σ0 σ' → a'.defers = a.defers → Bears G ρ' σ' F n (look st'.env) st'.H st'.N a' w' → wpOps P ops Q (List.range' (k + os.length) tl.length) a' w') →
      wpOps P ops Q (List.range' k (os.length + tl.length)) a w := by
  intro os; induction os with
  | nil =>
    intro k ans st st' ρ σ a w _ h hC hS hT hρ hσ hB hQ
    cases ans with
    | nil => cases h; simpa using hQ ρ σ a w hρ hσ rfl hB
    | cons => cases h
  | cons o os ih =>
    intro k ans st st' ρ σ a w hk h hC hS hT hρ hσ hB hQ
    cases ans with
    | nil => cases h
    | cons an ans =>
      have hmono := runR_mono (o :: os) (an :: ans) st st' h
      unfold runR at h
      split at h
      · cases h
      · rename_i r hr
        split at h
        · cases h
        · rename_i N hN
          split at h
          · rename_i hlow
            obtain ⟨m1, m2, m3⟩ := runR_mono _ _ _ _ h
            have hC' := (allP_append (m1 hC)).2
            have hS' := (allS_append (m2 hS)).2
            have hT' := (allT_append (m3 hT)).2
            obtain ⟨hle, hnd, hfr⟩ := takes_ok hN
            have hko : ops[k]? = some o := by
              have : ops.toList[k]? = some o := by
                have := congrArg (·[0]?) hk
                simpa [List.getElem?_drop] using this
              simpa using this
            have hmem : o ∈ ops.toList := List.mem_of_getElem? (by simpa using hko : ops.toList[k]? = some o)
            rw [show (o :: os).length + tl.length = (os.length + tl.length) + 1 from by simp only [List.length_cons]; omega, List.range'_succ]
            simp only [wpOps, hko]
            refine stepR_ok hr hC' hS' hT' hB.gr hB.env hB.inv (fun i hi => ?_) hnd ?_
            · cases hs : σ i with
              | none => rfl
              | some L => have := hB.inv.dom i L hs; have := (hfr i hi).1; omega
            · intro x ρ' σ' w' hρ' hσ' he hH'
              refine ih (k + 1) ans _ st' ρ' σ' _ w' ?_ h hC hS hT (hρ.trans hρ') (hσ.trans hσ') ?_ ?_
              · rw [← List.drop_drop, hk]; rfl
              · refine ⟨hB.gr.mono hρ'.m, EnvR_put (hB.env.mono hρ'.m hσ') (hdst o hmem) he, hH'.wider (fun i hi => ?_)⟩
                rcases hi with hi | hi
                · exact Nat.lt_of_lt_of_le hi hle
                · exact wrLow_ok hlow i hi
              · intro ρ'' σ'' a'' w'' h1 h2 h3 h4
                rw [show k + 1 + os.length = k + (o :: os).length from by simp only [List.length_cons]; omega]
                exact hQ ρ'' σ'' a'' w'' h1 h2 (by rw [h3]; cases o.dst <;> rfl) h4
          · cases h

theorem WM.range {k : List It} {c : Code} {E : Env} {hs : List (Option Blk)} {E1 : Env} {ti : Nat} {T : TypeId} {l : List Int} (an : List (RAnn P G)) {C : List Prop} (hC : allP C)
    (hr : rangeRun c n an E hs = some (⟨C, [], [], E1, hOf hs, hs.length⟩, ti, T, .s l)) (hT : P.underlying T = some .string)
    (next : ∀ r, WMI P G n K0 rs v hs1 cx r (runesOf l) k ((ti, ⟨none, .val (ptrV r)⟩) :: E1) hs) : WM P G n K0 rs v hs1 cx (.code c :: k) E hs := by
  unfold rangeRun at hr
  split at hr
  · rename_i id ops
    split at hr
    · rename_i pre ti T x ty pos af hsp
      split at hr
      · rename_i hlow hgx
        split at hr
        · rename_i st hrun
          split at hr
          · rename_i hg2
            injection hr with hr
            injection hr with hr1 hr2
            injection hr2 with hr2 hr3
            injection hr3 with hr3 hr4
            subst hr1; subst hr2; subst hr3
            have hops := splitL_ok hsp
            rintro a w ⟨hd, ρ, σ, h1, h2, hB⟩
            show (Code.region id ops false).wpIn (FW cx.ro) 0 P (ExK cx.ro P _ k) a w
            refine wpIn_region (ops_in (Qn := fun a w => ExK cx.ro P (cx.Q P G n K0 rs v hs1) k .normal a w) (noDefer_ok hlow) (fun _ _ h => h) _ _ _ ?_)
            rw [List.range_eq_range', show ops.size = pre.length + 1 from by rw [← Array.length_toList, hops]; simp]
            refine runR_okT (ρ0 := ρ) (σ0 := σ) (F := cx.F) (dstsLow_ok hlow) (tl := [⟨some ti, .range T x, ty, pos, af, none⟩]) pre 0 an _ _ ρ σ a w (by simpa using hops) hrun hC trivial trivial (leR.refl _ _) (leS.refl _) hB ?_
            intro ρ' σ' a' w' g1 g2 g3 g4
            have hlast : ops[0 + pre.length]? = some ⟨some ti, .range T x, ty, pos, af, none⟩ := by
              have : ops.toList[pre.length]? = some ⟨some ti, .range T x, ty, pos, af, none⟩ := by rw [hops]; simp
              simpa using this
            show wpOps P ops _ [0 + pre.length] a' w'
            simp only [wpOps, hlast]
            have hx := evO_ok (x := x) g4.gr g4.env (fun e he => by rw [hg2] at he; cases he)
            rw [hr4] at hx
            rw [if_pos (by simp [Region.wanted])]
            left
            unfold Oper.wp
            have hti : ti < n := dstsLow_ok hlow ⟨some ti, .range T x, ty, pos, af, none⟩ (by rw [hops]; simp) ti rfl
            generalize hav : a'.eval x = xv at hx
            cases hx
            rename_i s hs'
            have e1 : (execOp a'.eval ⟨some ti, .range T x, ty, pos, af, none⟩).run P w' = .ok (.value (.pointer (some ⟨w'.heap.size, 0, none⟩))) (w'.iter s 0) := by
              simp only [execOp, hav, Sem.run_bind, run_range_string w' T s hT, Result.andThen_ok, Sem.run_pure]
            rw [e1, Oper.upon_value]
            obtain ⟨hF0, hcρ, hC1⟩ := Cx.C.alloc (cx := cx) (K0 := K0) (.stringIter s 0) (⟨ρ', σ', h1.trans g1, h2.trans (fun i hi L hL => g2 i L hL), g4⟩ : cx.C G n K0 E1 hs a' w')
            refine ⟨rfl, ?_⟩
            refine next w'.heap.size s 0 hF0 hcρ ⟨l.length, by subst hs'; simp [strL], ?_⟩ _ _ ⟨by simp only [Act.put]; exact g3.trans hd, ?_⟩
            · subst hs'; simp [runesOf, strL]
            · refine Cx.C.re (cx := cx) (r := w'.heap.size) (a := a') (w := w'.alloc (.stringIter s 0)) hcρ ⟨⟨rfl, rfl⟩, fun _ _ => rfl⟩ (World.alloc_heap_new w' _) ?_ hC1
              intro ρ σ he
              exact EnvR_put (d := some ti) (e := ⟨none, .val (ptrV w'.heap.size)⟩) he (fun t ht => by cases ht; exact hti) (.val : VR ρ σ (.val (ptrV w'.heap.size)) (ptrV w'.heap.size))
          · cases hr
        · cases hr
      · cases hr
    · cases hr
  · cases hr

theorem WMI.loop {X : Type} {Y : Type} {k : List It} {y : Y} {kb : (Act → World → Prop) → List It} (hk : ∀ I, enterL I k = some (kb I)) {r : Nat} (L : Nat → List Int → X → Option Y) (E : X → Env) (hs : X → List (Option Blk))
    (round : ∀ j rest x I, L j rest x = some y → (∀ i rest' x', i < j → L i rest' x' = some y → ∀ s pos, iterR s pos rest' → ∀ a w, (cx.it r s pos).In G n K0 (E x') (hs x') a w → I a w) → WMI P G n K0 rs v hs1 cx r rest (kb I) (E x) (hs x))
    {j rest x} (h : L j rest x = some y) : WMI P G n K0 rs v hs1 cx r rest k (E x) (hs x) := by
  intro s pos hF hρ hi a w hin
  have main : ∀ c k', (∀ I, kb I = .code c :: .again I :: k') → ExK cx.ro P (cx.Q P G n K0 rs v hs1) (.code (.loop c) :: k') .normal a w := by
    intro c k' hkb
    refine wpIn_loop_gh (fun j a w => ∃ rest x s pos, L j rest x = some y ∧ iterR s pos rest ∧ (cx.it r s pos).In G n K0 (E x) (hs x) a w) (m := j) ⟨rest, x, s, pos, h, hi, hin⟩ ?_
    rintro j a w ⟨rest, x, s, pos, hx, hi, hin⟩
    have := round j rest x (fun a w => ∃ i, i < j ∧ ∃ rest' x' s pos, L i rest' x' = some y ∧ iterR s pos rest' ∧ (cx.it r s pos).In G n K0 (E x') (hs x') a w) hx
      (fun i rest' x' hlt hx' s pos hi a w hin => ⟨i, hlt, rest', x', s, pos, hx', hi, hin⟩) s pos hF hρ hi a w hin
    rw [hkb] at this
    exact this
  match k, hk with
  | .code (.loop c) :: k', hk => exact main c k' fun I => by have := hk I; simp only [enterL, Option.some.injEq] at this; exact this.symm
  | [], hk => exact absurd (hk fun _ _ => True) (by simp [enterL])
  | .fin _ :: _, hk => exact absurd (hk fun _ _ => True) (by simp [enterL])
  | .again _ :: _, hk => exact absurd (hk fun _ _ => True) (by simp [enterL])
  | .rnd _ _ :: _, hk => exact absurd (hk fun _ _ => True) (by simp [enterL])
  | .code c :: k', hk =>
    cases c <;> first
      | exact main _ k' fun I => by have := hk I; simp only [enterL, Option.some.injEq] at this; exact this.symm
      | exact absurd (hk fun _ _ => True) (by simp [enterL])

def nextReg : Code → Option (Nat × Nat × Nat)
  | .region _ ops false => match ops.toList with
    | [⟨some t, .next (.tmp ti) true, _, _, _, none⟩, ⟨some t', .extract (.tmp u) 0, _, _, _, none⟩] => match Nat.beq u t with
      | true => some (ti, t, t')
      | false => none
    | _ => none
  | _ => none

theorem has_i32 {m : Nat} (h : m ≤ 0x10FFFF) : okInt .i32 (m : Int) := .inr (by
  have e1 : IntKind.i32.min = -2147483648 := by decide
  have e2 : IntKind.i32.max = 2147483647 := by decide
  unfold IntKind.has; rw [e1, e2]; constructor <;> omega)

theorem decL_pos (l : List Int) : 1 ≤ (decL l).2 := by
  unfold decL
  dsimp only
  repeat' split
  all_goals simp

theorem WMI.next {k : List It} {c : Code} {E : Env} {hs : List (Option Blk)} {r ti t t' : Nat} {rest : List Int} (hc : nextReg c = some (ti, t, t')) (ht : (Nat.blt t n && Nat.blt t' n) = true) (hE : look E ti = some ⟨none, .val (ptrV r)⟩)
    (h0 : rest = [] → WM P G n K0 rs v hs1 cx k ((t', ⟨none, .b false⟩) :: (t, ⟨none, .tup [.b false]⟩) :: E) hs)
    (h1 : ∀ x rest', rest = x :: rest' → ∀ s pos, cx.F r = none → cx.ρ r = none → iterR s pos rest' → WM P G n K0 rs v hs1 (cx.it r s pos) k ((t', ⟨none, .b true⟩) :: (t, ⟨none, .tup [.b true, .u, .i .i32 x]⟩) :: E) hs) :
    WMI P G n K0 rs v hs1 cx r rest (.code c :: k) E hs := by
  unfold nextReg at hc
  split at hc
  · rename_i id ops
    split at hc
    · rename_i t ti ty1 p1 f1 t' u ty2 p2 f2 hops
      split at hc
      · rename_i hb
        cases hc
        have htt : u = t := Nat.eq_of_beq_eq_true hb
        subst htt
        simp only [Bool.and_eq_true, Nat.blt_eq] at ht
        intro s pos hF hρ hi a w hin
        have hheap := hin.heap
        have hlt : r < w.heap.size := some_lt hheap
        show (Code.region id ops false).wpIn (FW cx.ro) 0 P (ExK cx.ro P _ k) a w
        refine wpIn_region_list ?_
        rw [hops]
        have hin' := hin
        obtain ⟨hd, ρ, σ, g1, g2, hB⟩ := hin'
        obtain ⟨hti, hv⟩ := hB.env.2 ti _ hE
        simp only [entR] at hv
        have hptr : a.tmps.getD ti undef = ptrV r := by generalize a.tmps.getD ti undef = z at hv ⊢; cases hv; rfl
        have htn : u < a.tmps.size := by rw [hB.env.1]; exact ht.1
        obtain ⟨N, hN, hrest⟩ := hi
        have hlen : ((strL s).drop pos).length = s.size - pos := by simp [strL]
        refine wpListIn_plain rfl fun K hK => ?_
        by_cases hp : pos < s.size
        · obtain ⟨m, rfl⟩ : ∃ m, N = m + 1 := ⟨N - 1, by omega⟩
          have hne : ¬ ((strL s).drop pos).length = 0 := by omega
          simp only [runesL, if_neg hne] at hrest
          have e1 : (execOp a.eval ⟨some u, .next (.tmp ti) true, ty1, p1, f1, none⟩).run P w =
              .ok (.value (.tuple #[.bool true, goInt pos, .int .i32 ((decL ((strL s).drop pos)).1)])) { w with heap := w.heap.setIfInBounds r (.stringIter s (pos + (decL ((strL s).drop pos)).2)) } := by
            simp only [execOp, Act.eval, hptr, ptrV, Instr.next, getObj, setObj, Sem.run_bind, Sem.run, hheap, Result.andThen, hp, if_true, decode_eq]
            simp [goInt, Sem.run, hlt, hheap]
          refine op_val (by intro c; simp) e1 (hK _ _ ?_)
          refine wpListIn_plain rfl fun K hK => ?_
          have e2 : ∀ w', (execOp (a.put (some u) (.tuple #[.bool true, goInt pos, .int .i32 ((decL ((strL s).drop pos)).1)])).eval ⟨some t', .extract (.tmp u) 0, ty2, p2, f2, none⟩).run P w' = .ok (.value (.bool true)) w' := by
            intro w'
            simp [execOp, Act.eval, Act.put, Instr.extract, Array.getD, htn]
          refine op_val (by intro c; simp) (e2 _) (hK _ _ (wpListIn_nil ?_))
          have hw1 : ∀ q, q ≠ r → (w.heap.setIfInBounds r (.stringIter s (pos + (decL ((strL s).drop pos)).2)))[q]? = w.heap[q]? := fun q hq => Array.getElem?_setIfInBounds_ne (Ne.symm hq)
          have hw2 : (w.heap.setIfInBounds r (.stringIter s (pos + (decL ((strL s).drop pos)).2)))[r]? = some (.stringIter s (pos + (decL ((strL s).drop pos)).2)) := by simp [hlt]
          have hpos := decL_pos ((strL s).drop pos)
          refine ExK_mono (fun e a w hq => hq.drop hF hρ) k _ _ _ (h1 _ _ hrest s (pos + (decL ((strL s).drop pos)).2) hF hρ ⟨m, ?_, ?_⟩ _ _ (hin.move (w := w) hρ ⟨⟨rfl, rfl⟩, hw1⟩ hw2 (by rfl) ?_))
          · have e : ((strL s).drop (pos + (decL ((strL s).drop pos)).2)).length = s.size - (pos + (decL ((strL s).drop pos)).2) := by simp [strL]
            rw [e]; omega
          · simp [List.drop_drop]
          · intro ρ σ he
            refine EnvR_put (d := some t') (e := ⟨none, .b true⟩) (EnvR_put (d := some u) (e := ⟨none, .tup [.b true, .u, .i .i32 _]⟩) he (fun s hs => by cases hs; exact ht.1) ?_) (fun s hs => by cases hs; exact ht.2) .b
            refine .tup (by simp) fun i hi => ?_
            have hb := dec_bound ((strL s).drop pos)
            match i, hi with
            | 0, _ => exact .b
            | 1, _ => exact .u
            | 2, _ => exact .i (has_i32 hb)
        · have hnil : rest = [] := by
            rw [hrest]
            cases N with
            | zero => rfl
            | succ m => simp only [runesL]; rw [if_pos (by omega)]
          have e1 : (execOp a.eval ⟨some u, .next (.tmp ti) true, ty1, p1, f1, none⟩).run P w = .ok (.value (.tuple #[.bool false])) w := by
            simp [execOp, Act.eval, hptr, ptrV, Instr.next, getObj, Sem.run, hheap, hp]
          refine op_val (by intro c; simp) e1 (hK _ _ ?_)
          refine wpListIn_plain rfl fun K hK => ?_
          have e2 : ∀ w', (execOp (a.put (some u) (.tuple #[.bool false])).eval ⟨some t', .extract (.tmp u) 0, ty2, p2, f2, none⟩).run P w' = .ok (.value (.bool false)) w' := by
            intro w'
            simp [execOp, Act.eval, Act.put, Instr.extract, Array.getD, htn]
          refine op_val (by intro c; simp) (e2 _) (hK _ _ (wpListIn_nil ?_))
          refine h0 hnil _ _ ((hin.move hρ ⟨⟨rfl, rfl⟩, fun _ _ => rfl⟩ hheap (by rfl) ?_).drop hF hρ)
          intro ρ σ he
          refine EnvR_put (d := some t') (e := ⟨none, .b false⟩) (EnvR_put (d := some u) (e := ⟨none, .tup [.b false]⟩) he (fun s hs => by cases hs; exact ht.1) ?_) (fun s hs => by cases hs; exact ht.2) .b
          refine .tup (by simp) fun i hi => ?_
          match i, hi with
          | 0, _ => exact .b
      · cases hc
    · cases hc
  · cases hc
end
end Go.Proofs.YtiekchfipaiflaaGreatDoor
