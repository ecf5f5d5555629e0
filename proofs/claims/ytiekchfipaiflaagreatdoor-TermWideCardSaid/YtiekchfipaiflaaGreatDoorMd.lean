/- Is a slice nil? Both ways are gone. -/
import Derived.Test.YtiekchfipaiflaaGreatDoorMc
namespace Go.Proofs.YtiekchfipaiflaaGreatDoor
open Go

def hcode (k : List It) : Code :=
  match k with
  | .code c :: _ => c
  | _ => .skip
theorem and3 {a b : Bool} (h : (a && b) = false) (h' : a = true) : b = false := by subst h'; simpa using h
theorem and4 {a b : Bool} (h : (a && b) = false) (h' : b = true) : a = false := by subst h'; simpa using h
theorem or3 {a b : Bool} (h : (a || b) = true) (h' : a = false) : b = true := by subst h'; simpa using h
theorem or4 {a b : Bool} (h : (a || b) = true) (h' : b = false) : a = true := by subst h'; simpa using h
def nilReg : Code → Option (Nat × Nat × Nat × TypeId)
  | .region _ ops false => match ops.toList with
    | [⟨some t3, .move (.tmp t0), _, _, _, none⟩, ⟨some t4, .binOp .eql T (.tmp t) (.const (.slice none 0 0)) _, _, _, _, none⟩] => match Nat.beq t t3 with
      | true => some (t0, t3, t4, T)
      | false => none
    | _ => none
  | _ => none
def sliceN : V → Option Nat
  | .sl _ _ n => some n
  | .ro _ (_ + 1) _ _ l => some l.length
  | .nils => some 0
  | _ => none

theorem sliceN_ok {ρ σ v m x} (h : sliceN v = some m) (hv : VR ρ σ v x) : ∃ a cap, x = .slice a m cap ∧ (a = none → m = 0) := by
  unfold sliceN at h
  split at h
  · cases h
    cases hv with
    | sl hs hl hc =>
      refine ⟨_, _, rfl, fun e => ?_⟩
      subst e
      rcases Nat.eq_zero_or_pos (_ : Nat) with h0 | h0
      · exact Nat.le_zero.1 (h0 ▸ hl)
      · have := (hc h0).1; cases this
  · cases h; cases hv
    rename_i l _ _ cap a g hl hr _
    refine ⟨_, _, rfl, fun e => ?_⟩
    subst e
    rcases Nat.eq_zero_or_pos (List.length _) with h0 | h0
    · exact h0
    · have := hr 0 h0 0 (by omega); simp [rd] at this
  · cases h; cases hv; exact ⟨_, _, rfl, fun _ => rfl⟩
  · cases h

theorem equal_slice {P : Program} {T e : TypeId} (h : P.underlying T = some (.slice e)) (a : Option Addr) (n c : Nat) (w : World) : (Op.equal T (.slice a n c) (.slice none 0 0)).run P w = .ok a.isNone w := by
  obtain ⟨d, hd⟩ := equal_succ
  rw [hd]
  cases a <;> simp [Op.equalIn, run_underlying h]

theorem WM.nilq {P : Program} {G : Glob} {n K0 : Nat} {rs : List ResultVar} {v0 : V} {hs1 : List (Option Blk)} {cx : Cx} {k : List It} {c : Code} {t0 t3 t4 : Nat} {T e : TypeId} {E : Env} {hs : List (Option Blk)} {v : V} {m : Nat}
    (hc : nilReg c = some (t0, t3, t4, T)) (hT : P.underlying T = some (.slice e)) (ht : (Nat.blt t3 n && Nat.blt t4 n) = true) (hE : look E t0 = some ⟨none, v⟩) (hv : sliceN v = some m)
    (h1 : m = 0 → WM P G n K0 rs v0 hs1 cx k ((t4, ⟨none, .b true⟩) :: (t3, ⟨none, v⟩) :: E) hs)
    (h2 : WM P G n K0 rs v0 hs1 cx k ((t4, ⟨none, .b false⟩) :: (t3, ⟨none, v⟩) :: E) hs) : WM P G n K0 rs v0 hs1 cx (.code c :: k) E hs := by
  unfold nilReg at hc
  split at hc
  · rename_i id ops
    split at hc
    · rename_i t3 t0 ty1 p1 f1 t4 T t yT ty2 p2 f2 hops
      split at hc
      · rename_i hb
        cases hc
        have htt : t = t3 := Nat.eq_of_beq_eq_true hb
        subst htt
        simp only [Bool.and_eq_true, Nat.blt_eq] at ht
        rintro a w ⟨hd, ρ, σ, g1, g2, hB⟩
        obtain ⟨hlt0, hr⟩ := hB.env.2 t0 _ hE
        simp only [entR] at hr
        obtain ⟨ad, cap, hx, h0⟩ := sliceN_ok hv hr
        show (Code.region id ops false).wpIn (FW cx.ro) 0 P (ExK cx.ro P _ k) a w
        refine wpIn_region_list ?_
        rw [hops]
        refine wpListIn_plain rfl fun K hK => ?_
        have e1 : (execOp a.eval ⟨some t, .move (.tmp t0), ty1, p1, f1, none⟩).run P w = .ok (.value (a.tmps.getD t0 undef)) w := by
          simp [execOp, Act.eval]
        refine op_val (by intro c; simp) e1 (hK _ _ ?_)
        refine wpListIn_plain rfl fun K hK => ?_
        have hev : (a.put (some t) (a.tmps.getD t0 undef)).eval (.tmp t) = .slice ad m cap := by
          have hlt : t < a.tmps.size := by rw [hB.env.1]; exact ht.1
          simp only [Act.eval, Act.put]
          rw [hx]
          simp [Array.getD, hlt]
        have e2 : ∀ a' : Act, a'.eval (.tmp t) = .slice ad m cap → (execOp a'.eval ⟨some t4, .binOp .eql T (.tmp t) (.const (.slice none 0 0)) yT, ty2, p2, f2, none⟩).run P w = .ok (.value (.bool ad.isNone)) w := by
          intro a' h
          simp only [execOp, h]
          have := bin_eql (equal_slice hT ad m cap w) rfl
          simp only [Sem.run_bind, eqGuard_skip (a := .slice ad m cap) (b := .slice none 0 0) rfl (.inr rfl), Result.andThen_ok, Act.eval, this, Sem.run_pure]
        refine op_val (by intro c; simp) (e2 _ hev) (hK _ _ (wpListIn_nil ?_))
        have hB1 : EnvR ρ σ (look ((t, ⟨none, v⟩) :: E)) n (a.put (some t) (a.tmps.getD t0 undef)).tmps :=
          EnvR_put (d := some t) (e := ⟨none, v⟩) hB.env (fun s hs => by cases hs; exact ht.1) hr
        cases hn : ad.isNone with
        | true =>
          have hm : m = 0 := h0 (by cases ad with
            | none => rfl
            | some _ => cases hn)
          refine h1 hm _ w ⟨hd, ρ, σ, g1, g2, hB.gr, ?_, hB.inv⟩
          exact EnvR_put (d := some t4) (e := ⟨none, .b true⟩) hB1 (fun s hs => by cases hs; exact ht.2) .b
        | false =>
          refine h2 _ w ⟨hd, ρ, σ, g1, g2, hB.gr, ?_, hB.inv⟩
          exact EnvR_put (d := some t4) (e := ⟨none, .b false⟩) hB1 (fun s hs => by cases hs; exact ht.2) .b
      · cases hc
    · cases hc
  · cases hc
/-! A call that leaves blocks as they are. -/
theorem sameO.trans {a b c : Option Blk} (h : sameO a b) (h' : sameO b c) : sameO a c := by
  cases a <;> cases b <;> cases c <;> first | trivial | exact h.elim | exact h'.elim | exact ⟨h.1.trans h'.1, h.2.trans h'.2⟩

theorem applyW_trim {drop : List Nat} : ∀ (wr : List (Nat × Option Blk)) (H : Heap), (∀ p ∈ wr, memB p.1 drop = true → sameO p.2 (H p.1)) → (wr.map (·.1)).Nodup →
    ∀ t, sameO (applyW wr H t) (applyW (wr.filter fun p => !memB p.1 drop) H t) := by
  intro wr; induction wr with
  | nil => intro H _ _ t; exact sameO.refl _
  | cons p r ih =>
    intro H h hn t
    simp only [List.map_cons, List.nodup_cons] at hn
    show sameO (applyW r (upd H p.1 p.2) t) _
    have hne : ∀ q, q ∈ r → q.1 ≠ p.1 := fun q hq e => hn.1 (e ▸ List.mem_map.2 ⟨q, hq, rfl⟩)
    cases hp : memB p.1 drop with
    | true =>
      rw [List.filter_cons_of_neg (by simp [hp])]
      refine sameO.trans (applyW_core r (B := H) (fun j => ?_) t) (ih H (fun q hq => h q (.tail _ hq)) hn.2 t)
      by_cases hj : j = p.1
      · subst hj; rw [upd_same]; exact h p (.head _) hp
      · rw [upd_ne _ _ _ hj]; exact sameO.refl _
    | false =>
      rw [List.filter_cons_of_pos (by simp [hp])]
      show sameO _ (applyW _ (upd H p.1 p.2) t)
      refine ih _ (fun q hq hd => ?_) hn.2 t
      rw [upd_ne _ _ _ (hne q hq)]
      exact h q (.tail _ hq) hd

def keyW (p : Nat × Option Blk) : Nat × Option (Nat × List V) := (p.1, p.2.map fun b => (b.size, cellsOf b))
def keyB (p : Nat × Blk) : Nat × Option (Nat × List V) := (p.1, some (p.2.size, cellsOf p.2))
theorem CallOK.trim {P : Program} {G : Glob} {K : FuncId} {args : List V} {blks : List (Nat × Blk)} {v : V} {wr : List (Nat × Option Blk)} (h : CallOK P G K args blks v wr) (drop : List Nat) (hn : nodupB (wr.map (·.1)) = true)
    (hs : (wr.filter fun p => memB p.1 drop).map keyW = (blks.filter fun p => memB p.1 drop).map keyB) : CallOK P G K args blks v (wr.filter fun p => !memB p.1 drop) := by
  have hb : ∀ p ∈ wr, memB p.1 drop = true → ∃ b, sameO p.2 (some b) ∧ (p.1, b) ∈ blks := by
    intro p hp hd
    have : keyW p ∈ (wr.filter fun p => memB p.1 drop).map keyW := List.mem_map.2 ⟨p, List.mem_filter.2 ⟨hp, hd⟩, rfl⟩
    rw [hs, List.mem_map] at this
    obtain ⟨q, hq, e⟩ := this
    obtain ⟨i, o⟩ := p
    obtain ⟨j, b⟩ := q
    cases o with
    | none => simp [keyW, keyB] at e
    | some b' =>
      simp only [keyW, keyB, Option.map_some, Prod.mk.injEq, Option.some.injEq] at e
      obtain ⟨rfl, e1, e2⟩ := e
      exact ⟨b, ⟨e1.symm, e2.symm⟩, (List.mem_filter.1 hq).1⟩
  intro ρ σ D H F w vals hG hH hA hI hf
  refine (h ρ σ D H F w vals hG hH hA hI fun p hp => ?_).mono ?_
  · cases hd : memB p.1 drop with
    | true => obtain ⟨b, _, hm⟩ := hb p hp hd; exact .inl (List.mem_map.2 ⟨_, hm, rfl⟩)
    | false => exact hf p (List.mem_filter.2 ⟨hp, by simp [hd]⟩)
  · rintro e w' ⟨val, ρ', σ', h1, h2, h3, h4, h5⟩
    refine ⟨val, ρ', σ', h1, h2, h3, h4, ?_⟩
    have hd : ∀ i, i ∈ wr.map (·.1) → D i ∨ i ∈ (wr.filter fun p => !memB p.1 drop).map (·.1) := by
      intro i hi
      obtain ⟨p, hp, rfl⟩ := List.mem_map.1 hi
      cases hd : memB p.1 drop with
      | true =>
        obtain ⟨b, _, hm⟩ := hb p hp hd
        obtain ⟨L, hL, _⟩ := hI.blk _ _ (hH _ hm)
        exact .inl (hI.dom _ _ hL)
      | false => exact .inr (List.mem_map.2 ⟨p, List.mem_filter.2 ⟨hp, by simp [hd]⟩, rfl⟩)
    have h6 := h5.wider (D' := fun j => D j ∨ j ∈ (wr.filter fun p => !memB p.1 drop).map (·.1)) (fun i hi => hi.elim .inl (hd i))
    refine h6.congr fun t => applyW_trim wr H (fun p hp hd => ?_) (nodupB_ok hn) t
    obtain ⟨b, e, hm⟩ := hb p hp hd
    rw [hH _ hm]; exact e

def mkCallT {P : Program} {G : Glob} {K : FuncId} {args : List V} {hs : List (Option Blk)} {v : V} {hs' : List (Option Blk)} (enter : ∀ args w, (callFunc K args).run P w = .ok (.enter K args) w)
    (h : Spec P G K args hs v hs') (τ : List Nat) (drop : List Nat) (hb : callB τ args hs v hs' = true) (he : (callE τ hs hs').map (·.1) = (callE τ hs hs').map (·.2))
    (hn : nodupB ((wrOf (mapOf τ) τ hs').map (·.1)) = true)
    (hd : ((wrOf (mapOf τ) τ hs').filter fun p => memB p.1 drop).map keyW = ((blksOf (mapOf (τ.take hs.length)) (τ.take hs.length) hs).filter fun p => memB p.1 drop).map keyB) : CallD P G where
  K := K
  args := args.map (ren2 (mapOf (τ.take hs.length)))
  blks := blksOf (mapOf (τ.take hs.length)) (τ.take hs.length) hs
  v := ren2 (mapOf τ) v
  wr := (wrOf (mapOf τ) τ hs').filter fun p => !memB p.1 drop
  enter := enter
  ok := (mkCall enter h τ hb he).ok.trim drop hn hd
end Go.Proofs.YtiekchfipaiflaaGreatDoor
