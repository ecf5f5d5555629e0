/- A step of a region; a region in the order of its text. -/
import Derived.Test.YtiekchfipaiflaaGreatDoorLp
namespace Go.Proofs.YtiekchfipaiflaaGreatDoor
open Go

section
variable {P : Program} {G : Glob} {ρ : Mem} {σ : Sig} {D : Nat → Prop} {H : Heap} {F : Fr} {w : World} {env : Nat → Option Ent} {n : Nat} {a : Act} {K : Act → World → Prop} {Q : Exit → Act → World → Prop}

theorem operands_ok {og : Option Bool} {xs : List Operand} (hG : GR G ρ) (hE : EnvR ρ σ env n a.tmps) (hg : allP (guardC og env xs)) (ho : ∀ b, og = some b → b = true) :
    ∀ x ∈ xs, VR ρ σ (evO G env x) (a.eval x) := fun x hx => evO_ok hG hE (guardC_ok hg ho x hx)

theorem isOne_nil {α : Type 1} {l : List α} (h : isOne l = true) : l = [] := by
  cases l with
  | nil => rfl
  | cons => cases h

theorem entR_false (v : V) : entR ρ σ ⟨some false, v⟩ undef := ⟨(fun h => by cases h), fun _ => rfl⟩

def stepK (ρ : Mem) (σ : Sig) (D : Nat → Prop) (H : Heap) (F : Fr) (r : ROut) (K : Value → World → Prop) : Prop :=
  ∀ x ρ' σ' w', leR F ρ ρ' → leS σ σ' → entR ρ' σ' r.e x → HInv ρ' σ' (fun j => D j ∨ j ∈ r.wr.map (·.1)) (applyW r.wr H) F w' → K x w'

theorem weak0_ok {ρ : Mem} {σ : Sig} : ∀ {t s : V} {x : Value}, VR ρ σ s x → VR ρ σ (weak0 t s) x := by
  intro t s x h
  unfold weak0
  split
  · exact .u
  · cases h
    exact .ro (l := []) (fun _ _ => undef) (Nat.le_refl _) (fun k hk => by simp at hk) (fun k hk => by simp at hk)
  · exact h
theorem zipW_len : ∀ {t s : List V}, (zipW t s).length = s.length := by
  intro t; induction t with
  | nil => intro s; rfl
  | cons a t ih => intro s; cases s with
    | nil => rfl
    | cons b s => simp only [zipW, List.length_cons, ih]
theorem zipW_ok {ρ : Mem} {σ : Sig} : ∀ {t s : List V} {i : Nat} {x : Value}, VR ρ σ (s.getD i .u) x → VR ρ σ ((zipW t s).getD i .u) x := by
  intro t; induction t with
  | nil => intro s i x h; exact h
  | cons a t ih =>
    intro s i x h
    cases s with
    | nil => exact h
    | cons b s =>
      cases i with
      | zero => exact weak0_ok h
      | succ i => exact ih (s := s) (i := i) (by simpa using h)
theorem weak1_ok {ρ : Mem} {σ : Sig} {t s : V} {x : Value} (h : VR ρ σ s x) : VR ρ σ (weak1 t s) x := by
  unfold weak1
  split
  · cases h
    rename_i cs hn hv
    exact .agg (by rw [zipW_len]; exact hn) fun i hi => zipW_ok (hv i hi)
  · exact weak0_ok h
theorem zipW1_len : ∀ {t s : List V}, (zipW1 t s).length = s.length := by
  intro t; induction t with
  | nil => intro s; rfl
  | cons a t ih => intro s; cases s with
    | nil => rfl
    | cons b s => simp only [zipW1, List.length_cons, ih]
theorem zipW1_get : ∀ {t s : List V} (i : Nat), t.length = s.length → i < s.length → (zipW1 t s).getD i .u = weak1 (t.getD i .u) (s.getD i .u) := by
  intro t; induction t with
  | nil => intro s i h hi; simp only [List.length_nil] at h; omega
  | cons a t ih => intro s i h hi; cases s with
    | nil => simp at hi
    | cons b s =>
      cases i with
      | zero => rfl
      | succ i =>
        have := ih (s := s) i (by simpa using h) (by simpa using hi)
        simpa [zipW1, List.getD] using this

theorem HInv.weak {ρ : Mem} {σ : Sig} {D : Nat → Prop} {F : Fr} {w : World} {H : Heap} {id : Nat} {b b0 : Blk} (hH : HInv ρ σ D H F w) (hb0 : H id = some b0) (hsz : b.size = b0.size)
    (hz : cellsOf b = zipW1 (cellsOf b) (cellsOf b0)) : HInv ρ σ D (upd H id (some b)) F w := by
  have hlen : b.l.length = b0.l.length := by
    have := congrArg List.length hz
    rw [zipW1_len] at this
    simpa [cellsOf] using this
  have hcell : ∀ k, k < b.l.length → ∃ t s : List V, V.agg (b.enc (b.l.getD k b.d)) = weak1 (.agg t) (.agg (b0.enc (b0.l.getD k b0.d))) := by
    intro k hk
    have h1 := congrArg (fun l : List V => l.getD k .u) hz
    rw [zipW1_get k (by simp [cellsOf, hlen]) (by simp [cellsOf]; omega)] at h1
    have hk0 : k < b0.l.length := by omega
    simp only [cellsOf, List.getD, List.getElem?_map, List.getElem?_eq_getElem hk, List.getElem?_eq_getElem hk0, Option.map_some, Option.getD_some] at h1
    refine ⟨b.enc b.l[k], [], ?_⟩
    simpa [List.getD, List.getElem?_eq_getElem hk, List.getElem?_eq_getElem hk0] using h1
  have hd : ∀ {i c}, upd H id (some b) i = some c → ∃ c0, H i = some c0 ∧ (i ≠ id → c = c0) ∧ (i = id → c = b) := by
    intro i c h
    unfold upd at h
    split at h
    · rename_i he; cases h; exact ⟨b0, by rw [he]; exact hb0, fun h => absurd he h, fun _ => rfl⟩
    · rename_i he; exact ⟨c, h, fun _ => rfl, fun h => absurd h he⟩
  refine ⟨hH.dom, fun i c hi => ?_, fun i j c d M N hi hj => ?_, hH.frame, hH.rmem, fun i c M hi => ?_, hH.io⟩
  · obtain ⟨c0, h1, h2, h3⟩ := hd hi
    obtain ⟨L, hL, hB⟩ := hH.blk i c0 h1
    refine ⟨L, hL, ?_⟩
    by_cases he : i = id
    · rw [h3 he]
      rw [he] at h1; rw [hb0] at h1; cases h1
      obtain ⟨g1, g2, g3⟩ := hB
      refine ⟨g1.trans hsz.symm, by omega, ?_⟩
      rcases g3 with ⟨g4, g5⟩ | ⟨cs, ty, fz, g4, g5, g6, g7, g8⟩
      · refine .inl ⟨g4, ?_⟩
        rw [g5] at hlen
        exact List.length_eq_zero_iff.1 (by simpa using hlen)
      · refine .inr ⟨cs, ty, fz, g4, g5, by rw [hlen, hsz]; exact g6, g7, fun k hk j hj => ?_⟩
        obtain ⟨x, hx, hv⟩ := g8 k (by omega) j (by omega)
        refine ⟨x, by rw [hsz]; exact hx, ?_⟩
        obtain ⟨t, s, hts⟩ := hcell k hk
        simp only [weak1, V.agg.injEq] at hts
        rw [hts]
        exact zipW_ok hv
    · rw [h2 he]; exact hB
  · obtain ⟨c0, h1, _⟩ := hd hi
    obtain ⟨d0, h2, _⟩ := hd hj
    exact hH.inj i j c0 d0 M N h1 h2
  · obtain ⟨c0, h1, _⟩ := hd hi
    exact hH.apart i c0 M h1

theorem VR.closed {ρ : Mem} {σ : Sig} {v : V} {x : Value} (h : VR ρ σ v x) (hc : closed0 v = true) : VR ρ noSig v x := by
  cases h with
  | u => exact .u
  | b => exact .b
  | i h => exact .i h
  | s h => exact .s h
  | nilp => exact .nilp
  | rp g h1 h2 => exact .rp g h1 h2
  | nils => exact .nils
  | ro g h1 h2 h3 => exact .ro g h1 h2 h3
  | nilfn => exact .nilfn
  | niliface => exact .niliface
  | fl => exact .fl
  | val => exact .val
  | _ => cases hc

theorem closedS_ok {b : Blk} (h : (closedS b).1 = (closedS b).2) : ∀ k, k < b.l.length → (b.enc (b.l.getD k b.d)).length = b.size ∧ ∀ j, j < b.size → closed0 ((b.enc (b.l.getD k b.d)).getD j .u) = true := by
  intro k hk
  have h1 := congrArg (fun l : List V => l[k]?) h
  simp only [closedS, List.getElem?_map, List.getElem?_eq_getElem hk, Option.map_some, Option.some.injEq, V.agg.injEq] at h1
  have e : b.l.getD k b.d = b.l[k] := by simp [List.getD, List.getElem?_eq_getElem hk]
  rw [e]
  have hl : (b.enc b.l[k]).length = b.size := by have := congrArg List.length h1; simpa using this
  refine ⟨hl, fun j hj => ?_⟩
  have h2 := congrArg (fun l : List V => l[j]?) h1
  have hj' : j < (b.enc b.l[k]).length := by omega
  simp only [List.getElem?_map, List.getElem?_eq_getElem hj', Option.map_some, List.getElem?_replicate, hj, if_true, Option.some.injEq, V.b.injEq] at h2
  simpa [List.getD, List.getElem?_eq_getElem hj'] using h2

theorem freeze_ok {ρ : Mem} {σ : Sig} {D : Nat → Prop} {H : Heap} {F : Fr} {w : World} {id off n : Nat} {b : Blk} {x : Value} (hH : HInv ρ σ (fun j => D j ∨ j ∈ ([] : List (Nat × Option Blk)).map (·.1)) (applyW [] H) F w) (hb : H id = some b)
    (hv : VR ρ σ (.sl id off n) x) (hC : off + n ≤ b.l.length) (hS : (closedS b).1 = (closedS b).2) :
    ∃ ρ', leR F ρ ρ' ∧ VR ρ' σ (.ro b.α b.size b.enc b.d ((b.l.drop off).take n)) x ∧ HInv ρ' σ (fun j => D j ∨ j ∈ ([(id, (none : Option Blk))]).map (·.1)) (applyW [(id, none)] H) F w := by
  have hH : HInv ρ σ (fun j => D j ∨ j ∈ ([] : List (Nat × Option Blk)).map (·.1)) H F w := hH
  obtain ⟨L, hL, hB⟩ := hH.blk id b hb
  have hcl := closedS_ok hS
  have hlen : ((b.l.drop off).take n).length = n := by simp; omega
  have hget : ∀ k, k < n → ((b.l.drop off).take n).getD k b.d = b.l.getD (off + k) b.d := by
    intro k hk
    simp [List.getD, List.getElem?_take, hk, List.getElem?_drop]
  have drop : ∀ {ρ' : Mem}, leM ρ ρ' → (∀ r o, ρ' r = some o → w.heap[r]? = some o) → (∀ i c M, i ≠ id → H i = some c → σ i = some M → M.cap ≠ 0 → ρ' M.r = none) →
      HInv ρ' σ (fun j => D j ∨ j ∈ ([(id, (none : Option Blk))]).map (·.1)) (applyW [(id, none)] H) F w := by
    intro ρ' hm hr ha
    have up : ∀ i c, applyW [(id, none)] H i = some c → i ≠ id ∧ H i = some c := by
      intro i c h
      show i ≠ id ∧ _
      have h : upd H id none i = some c := h
      unfold upd at h
      split at h
      · cases h
      · rename_i hne; exact ⟨hne, h⟩
    refine ⟨fun i M hi => ?_, fun i c hi => ?_, fun i j c d M N hi hj => ?_, hH.frame, hr, fun i c M hi hM hc => ?_, hH.io⟩
    · rcases hH.dom i M hi with h | h
      · exact .inl h
      · simp at h
    · obtain ⟨M, hM, hB⟩ := hH.blk i c (up i c hi).2
      exact ⟨M, hM, hB.mono hm (leS.refl _)⟩
    · exact hH.inj i j c d M N (up i c hi).2 (up j d hj).2
    · exact ⟨(hH.apart i c M (up i c hi).2 hM hc).1, ha i c M (up i c hi).1 (up i c hi).2 hM hc⟩
  cases hv
  rename_i L' a cap hL' hcap hle
  rw [hL] at hL'; cases hL'
  obtain ⟨hes, hpos, hcase⟩ := hB
  by_cases hz : L.cap = 0
  · refine ⟨ρ, leR.refl _ _, ?_, drop (fun _ _ h => h) hH.rmem fun i c M _ hi hM hc => (hH.apart i c M hi hM hc).2⟩
    have hn : n = 0 := by
      rcases hcase with ⟨_, hnil⟩ | ⟨cs, ty, fz, hw, hcs, hle2, _⟩
      · rw [hnil] at hC; simp at hC; omega
      · rw [hcs, hz] at hle2
        have : b.l.length * b.size = 0 := by omega
        rcases Nat.mul_eq_zero.1 this with h | h <;> omega
    have := VR.ro (ρ := ρ) (σ := σ) (size := b.size) (enc := b.enc) (d := b.d) (l := (b.l.drop off).take n) (a := a) (cap := cap) (fun _ _ => undef) (by omega) (fun k hk => by omega) (fun k hk => by omega)
    rwa [hlen] at this
  · rcases hcase with ⟨h0, _⟩ | ⟨cs, ty, fz, hw, hcs, hle2, hfz, hcell⟩
    · exact absurd h0 hz
    · obtain ⟨hF, hρ0⟩ := hH.apart id b L hb hL hz
      let ρ' : Mem := fun r => if r = L.r then some (.cells cs ty fz) else ρ r
      have hm : leM ρ ρ' := by
        intro r o hr
        simp only [ρ']
        split
        · rename_i h; rw [h, hρ0] at hr; cases hr
        · exact hr
      refine ⟨ρ', ⟨hm, fun r hr => ?_⟩, ?_, drop hm ?_ ?_⟩
      · simp only [ρ'] at hr
        split at hr
        · rename_i h; rw [h]; exact .inr hF
        · exact .inl hr
      · by_cases hc0 : 0 < cap
        · obtain ⟨ha, _⟩ := hcap hc0
          have hx : ∀ k, k < n → ∀ j, j < b.size → ∃ v, cs[(off + k) * b.size + j]? = some v ∧ VR ρ' noSig ((b.enc (((b.l.drop off).take n).getD k b.d)).getD j .u) v := by
            intro k hk j hj
            obtain ⟨v, h1, h2⟩ := hcell (off + k) (by omega) j hj
            refine ⟨v, h1, ?_⟩
            rw [hget k hk]
            exact (h2.closed ((hcl (off + k) (by omega)).2 j hj)).mono hm (leS.refl _)
          have := VR.ro (ρ := ρ') (σ := σ) (size := b.size) (enc := b.enc) (d := b.d) (l := (b.l.drop off).take n) (a := a) (cap := cap) (fun k j => (cs[(off + k) * b.size + j]?).getD undef) (by omega)
            (fun k hk j hj => ?_) (fun k hk j hj => ?_)
          · rwa [hlen] at this
          · obtain ⟨v, h1, _⟩ := hx k (by omega) j hj
            rw [ha]
            simp only [rd, ρ', if_true, hes, h1, Option.getD_some]
            rw [← h1]; congr 1
            rw [Nat.add_mul]; omega
          · obtain ⟨v, h1, h2⟩ := hx k (by omega) j hj
            rw [h1]; exact h2
        · have hn : n = 0 := by omega
          have := VR.ro (ρ := ρ') (σ := σ) (size := b.size) (enc := b.enc) (d := b.d) (l := (b.l.drop off).take n) (a := a) (cap := cap) (fun _ _ => undef) (by omega) (fun k hk => by omega) (fun k hk => by omega)
          rwa [hlen] at this
      · intro r o hr
        simp only [ρ'] at hr
        split at hr
        · rename_i h; cases hr; rw [h]; exact hw
        · exact hH.rmem r o hr
      · intro i c M hne hi hM hc
        simp only [ρ']
        have : M.r ≠ L.r := hH.inj i id c b M L hi hb hM hL hne hc hz
        rw [if_neg this]
        exact (hH.apart i c M hi hM hc).2

theorem stepR_ok {ops : Array Oper} {o : Oper} {an : RAnn P G} {r : ROut} (h : stepR ops.toList o an env H = some r) (hC : allP r.C) (hS : allS r.S) (hT : allT r.T)
    (hG : GR G ρ) (hE : EnvR ρ σ env n a.tmps) (hH : HInv ρ σ D H F w) (hfr : ∀ i ∈ r.fr, σ i = none) (hnd : r.fr.Nodup)
    (hK : stepK ρ σ D H F r fun x w' => K (a.put o.dst x) w') :
    if Region.wanted o (yielded ops a.tmps) then o.wp P a w K Q ∨ (o.asks P a w ∧ LetsOut Q) else K (a.put o.dst undef) w := by
  have nothing : ∀ {H : Heap} {σ w}, HInv ρ σ D H F w → HInv ρ σ (fun j => D j ∨ j ∈ ([] : List (Nat × Option Blk)).map (·.1)) (applyW [] H) F w := fun h => h.wider fun _ h => .inl h
  unfold stepR at h
  split at h
  · cases h
  · rename_i og hog
    split at h
    · -- skip
      split at h
      · cases h
      · rename_i b
        cases h
        have hb : b = false := hC.1
        subst hb
        rw [gd_some hog hE]
        simp only [Bool.false_eq_true, if_false]
        exact hK undef ρ σ w (leR.refl _ _) (leS.refl _) (entR_false _) (nothing hH)
    · -- op
      rename_i an
      split at h
      · -- pick
        rename_i c x y hop
        split at h
        · rename_i p q r0 hc hx hy
          cases h
          obtain ⟨hC1, hC2⟩ := allP_append hC
          obtain ⟨hC2, hC3⟩ := allP_append hC2
          have main : (∀ b, og = some b → b = true) → o.wp P a w K Q := by
            intro ho
            have hcv := operands_ok (a := a) (xs := [c]) hG hE hC1 ho c (by simp)
            rw [hc] at hcv
            have pk : ∀ {g : Option Bool} {want : Bool}, allP (pickC og p want g) → p = want → ∀ e, g = some e → e = true := by
              intro g want hp hw e hg
              subst hg
              have h1 := hp.1
              unfold under at h1
              cases og with
              | none => exact h1 hw
              | some b => exact h1 (ho b rfl) hw
            have hxv : p = true → VR ρ σ (.b q) (a.eval x) := fun hp => by
              rw [← hx]; exact evO_ok hG hE (pk hC2 hp)
            have hyv : p = false → VR ρ σ (.b r0) (a.eval y) := fun hp => by
              rw [← hy]; exact evO_ok hG hE (pk hC3 hp)
            obtain ⟨dst, op, type, pos, after, guard⟩ := o
            dsimp only at hop hK
            subst hop
            unfold Oper.wp
            generalize hce : a.eval c = cv at hcv
            cases hcv
            have hrun : (execOp a.eval ⟨dst, .pick c x y, type, pos, after, guard⟩).run P w = .ok (.value (if p then a.eval x else a.eval y)) w := by
              simp only [execOp, hce, asBool, Sem.run_bind, Sem.run_pure, Result.andThen_ok]
            rw [hrun]
            refine hK _ ρ σ w (leR.refl _ _) (leS.refl _) ?_ (nothing hH)
            have : VR ρ σ (.b (pickB p q r0)) (if p then a.eval x else a.eval y) := by
              cases p
              · exact hyv rfl
              · exact hxv rfl
            unfold entR
            cases og with
            | none => exact this
            | some b => exact ⟨fun _ => this, fun hb => by rw [ho b rfl] at hb; cases hb⟩
          cases og with
          | none =>
            rw [show Region.wanted o (yielded ops a.tmps) = true by unfold Region.wanted; rw [gd_none hog]]
            exact .inl (main (fun b hb => by cases hb))
          | some b =>
            rw [gd_some hog hE]
            cases b with
            | true => exact .inl (main (fun b hb => by cases hb; rfl))
            | false =>
              simp only [Bool.false_eq_true, if_false]
              exact hK undef ρ σ w (leR.refl _ _) (leS.refl _) (entR_false _) (nothing hH)
        · cases h
      · rename_i op hnp
        split at h
        · rename_i out hout
          split at h
          · cases h
            obtain ⟨hC1, hC2⟩ := allP_append hC
            rw [show Region.wanted o (yielded ops a.tmps) = true by unfold Region.wanted; rw [gd_none hog]]
            refine .inl (fin_wp (opO_ok hout hC2 hS hH hfr hnd (operands_ok hG hE hC1 (fun b hb => by cases hb))) ?_)
            intro x σ' w' hs hv hH'
            exact hK x ρ σ' w' (leR.refl _ _) hs hv hH'
          · rename_i b
            split at h
            · rename_i hone
              cases h
              have hwr := isOne_nil hone
              obtain ⟨hC1, hC2⟩ := allP_append hC
              rw [gd_some hog hE]
              cases b with
              | true =>
                refine .inl (fin_wp (opO_ok hout (allP_under rfl hC2) hS hH hfr hnd (operands_ok hG hE hC1 (fun b hb => by cases hb; rfl))) ?_)
                · intro x σ' w' hs hv hH'
                  rw [hwr] at hH'
                  exact hK x ρ σ' w' (leR.refl _ _) hs ⟨fun _ => hv, (fun h => by cases h)⟩ hH'
              | false =>
                simp only [Bool.false_eq_true, if_false]
                exact hK undef ρ σ w (leR.refl _ _) (leS.refl _) (entR_false _) (nothing hH)
            · cases h
        · cases h
    · -- must
      rename_i an
      split at h
      · rename_i out hout
        cases h
        obtain ⟨hC0, hC1⟩ := allP_append hC
        obtain ⟨hC1, hC2⟩ := allP_append hC1
        rw [must_ok hog hC0 hE]
        refine .inl (fin_wp (opO_ok hout hC2 hS hH hfr hnd (operands_ok hG hE hC1 (fun b hb => by cases hb))) ?_)
        intro x σ' w' hs hv hH'
        exact hK x ρ σ' w' (leR.refl _ _) hs hv hH'
      · cases h
    · -- known
      rename_i an d
      split at h
      · rename_i out hout
        split at h
        · rename_i b hb
          cases h
          obtain ⟨hC0, hC1⟩ := allP_append hC
          obtain ⟨hC1, hC2⟩ := allP_append hC1
          obtain ⟨hC2, hC3⟩ := allP_append hC2
          rw [must_ok hog hC0 hE]
          refine .inl (fin_wp (opO_ok hout hC2 hS hH hfr hnd (operands_ok hG hE hC1 (fun b hb => by cases hb))) ?_)
          intro x σ' w' hs hv hH'
          rw [hb] at hv
          have hbd : b = d := hC3.1
          rw [hbd] at hv
          exact hK x ρ σ' w' (leR.refl _ _) hs hv hH'
        · cases h
      · cases h
    · -- call
      rename_i c
      split at h
      · rename_i S T hcs
        cases h
        obtain ⟨hC0, hC1⟩ := allP_append hC
        rw [must_ok hog hC0 hE]
        refine .inl (call_wp hcs hS hT hG hH (operands_ok hG hE hC1 (fun b hb => by cases hb)) hfr ?_)
        intro x ρ' σ' w' hρ hs hv hH'
        exact hK x ρ' σ' w' hρ hs hv hH'
      · cases h

    · -- pk
      rename_i d
      split at h
      · rename_i c x y hop
        split at h
        · rename_i p hc
          have main : ∀ z, r = ⟨mustC og ++ (guardC none env [c] ++ (guardC none env [z] ++ [p = d])), [], [], ⟨none, evO G env z⟩, [], []⟩ → (z = if d then x else y) →
              (if Region.wanted o (yielded ops a.tmps) then o.wp P a w K Q ∨ (o.asks P a w ∧ LetsOut Q) else K (a.put o.dst undef) w) := by
            intro z hz hzd
            subst hz
            obtain ⟨hC0, hC1⟩ := allP_append hC
            obtain ⟨hC1, hC2⟩ := allP_append hC1
            obtain ⟨hC2, hC3⟩ := allP_append hC2
            rw [must_ok hog hC0 hE]
            have hcv := operands_ok (a := a) (xs := [c]) hG hE hC1 (fun b hb => by cases hb) c (by simp)
            have hzv := operands_ok (a := a) (xs := [z]) hG hE hC2 (fun b hb => by cases hb) z (by simp)
            rw [hc] at hcv
            have hpd : p = d := hC3.1
            rw [hpd] at hcv
            refine .inl ?_
            obtain ⟨dst, op, type, pos, after, guard⟩ := o
            dsimp only at hop hK
            subst hop
            unfold Oper.wp
            generalize hce : a.eval c = cv at hcv
            cases hcv
            have hrun : (execOp a.eval ⟨dst, .pick c x y, type, pos, after, guard⟩).run P w = .ok (.value (a.eval z)) w := by
              simp only [execOp, hce, asBool, Sem.run_bind, Sem.run_pure, Result.andThen_ok]
              rw [hzd]; cases d <;> rfl
            rw [hrun]
            exact hK _ ρ σ w (leR.refl _ _) (leS.refl _) hzv (nothing hH)
          split at h
          · exact main x (Option.some.inj h).symm rfl
          · exact main y (Option.some.inj h).symm rfl
        · cases h
      · cases h
    · -- weak
      rename_i an v
      split at h
      · rename_i out hout
        cases h
        obtain ⟨hC0, hC1⟩ := allP_append hC
        obtain ⟨hC1, hC2⟩ := allP_append hC1
        rw [must_ok hog hC0 hE]
        refine .inl (fin_wp (opO_ok hout hC2 hS.2 hH hfr hnd (operands_ok hG hE hC1 (fun b hb => by cases hb))) ?_)
        intro x σ' w' hs hv hH'
        have hv' : v = weak1 v out.v := by have := hS.1; simpa using this
        refine hK x ρ σ' w' (leR.refl _ _) hs ?_ hH'
        show VR ρ σ' v x
        rw [hv']; exact weak1_ok hv
      · cases h
    · -- frz
      rename_i an id
      split at h
      · rename_i out hout
        split at h
        · rename_i id' off m b hv hwr hb
          split at h
          · rename_i hid
            cases h
            have hid := Nat.eq_of_beq_eq_true hid
            subst hid
            obtain ⟨hC0, hC1⟩ := allP_append hC
            obtain ⟨hC1, hC2⟩ := allP_append hC1
            obtain ⟨hC2, hC3⟩ := allP_append hC2
            rw [must_ok hog hC0 hE]
            refine .inl (fin_wp (opO_ok hout hC2 hS.2 hH hfr hnd (operands_ok hG hE hC1 (fun b hb => by cases hb))) ?_)
            intro x σ' w' hs hvx hH'
            rw [hv] at hvx
            rw [hwr] at hH'
            obtain ⟨ρ', h1, h2, h3⟩ := freeze_ok hH' hb hvx hC3.1 hS.1
            exact hK x ρ' σ' w' h1 hs h2 h3
          · cases h
        · cases h
      · cases h
    · -- ix
      rename_i q
      split at h
      · rename_i t x i hop
        split at h
        · rename_i kd m hi
          split at h
          · rename_i C v hid
            cases h
            obtain ⟨hC0, hC1⟩ := allP_append hC
            obtain ⟨hC1, hC2⟩ := allP_append hC1
            have hmq : m = q := hC2.1
            have hout : opO P o.op (evO G env) H .auto = some ⟨C, [], v, []⟩ := by
              rw [hop]
              simp only [opO]
              rw [hi, hmq, hid]
              rfl
            rw [must_ok hog hC0 hE]
            refine .inl (fin_wp (opO_ok hout hC2.2 trivial hH (fun i hi => by cases hi) List.nodup_nil (operands_ok hG hE hC1 (fun b hb => by cases hb))) ?_)
            intro x σ' w' hs hv hH'
            exact hK x ρ σ' w' (leR.refl _ _) hs hv hH'
          · cases h
        · cases h
      · cases h
    · -- re
      rename_i id b wk an
      split at h
      · rename_i b0 hb0
        split at h
        · rename_i out hout
          split at h
          · rename_i hsz
            cases h
            have hsz := Nat.eq_of_beq_eq_true hsz
            obtain ⟨hC0, hC1⟩ := allP_append hC
            obtain ⟨hC1, hC2⟩ := allP_append hC1
            have hH2 : HInv ρ σ D (upd H id (some b)) F w := by
              have h1 := hS.1
              cases wk with
              | true => exact HInv.weak hH hb0 hsz h1
              | false =>
                refine hH.congr fun i => ?_
                unfold upd
                split
                · rename_i he; rw [he, hb0]; exact ⟨hsz.symm, h1.symm⟩
                · cases hi : H i with
                  | none => trivial
                  | some c => exact ⟨rfl, rfl⟩
            rw [must_ok hog hC0 hE]
            refine .inl (fin_wp (opO_ok hout hC2 hS.2 hH2 hfr hnd (operands_ok hG hE hC1 (fun b hb => by cases hb))) ?_)
            intro x σ' w' hs hv hH'
            exact hK x ρ σ' w' (leR.refl _ _) hs hv (hH'.wider fun i hi => by
              rcases hi with hi | hi
              · exact .inl hi
              · exact .inr (by simp only [List.map_cons, List.mem_cons]; exact .inr hi))
          · cases h
        · cases h
      · cases h

end
end Go.Proofs.YtiekchfipaiflaaGreatDoor
