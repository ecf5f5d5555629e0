/- All operations but calls of functions do what the abstract outcome says. -/
import Derived.Test.YtiekchfipaiflaaGreatDoorLn
import Derived.Laws.StructEq
namespace Go.Proofs.YtiekchfipaiflaaGreatDoor
open Go

section
variable {P : Program} {ρ : Mem} {σ : Sig} {D : Nat → Prop} {H : Heap} {F : Fr} {w : World}

theorem zeroCut_ok {x v c lo hi mx t e i} {a b m : Option Value} {C} (h : zeroCut x lo hi mx = some (C, v)) (hx : VR ρ σ x c) (hu : P.underlying t = some (.slice e)) (hi' : P.info? e = some i)
    (hln : lo = none → a = none) (hhi : ∀ x, hi = some x → ∃ c, b = some c ∧ VR ρ σ x c) (hmx : ∀ x, mx = some x → ∃ c, m = some c ∧ VR ρ σ x c) :
    ∃ z, (Instr.sliceAt t c a b m).run P w = .ok z w ∧ VR ρ σ v z := by
  have zero : ∀ {o : Option V}, isZero o = true → ∃ k, o = some (.i k 0) := by
    intro o ho
    unfold isZero at ho
    split at ho
    · exact ⟨_, rfl⟩
    · cases ho
  have main : ∀ (base : Option Addr) (len cap : Nat), isZero hi = true → isZero mx = true → lo = none → ∃ z, (Instr.sliceAt t (.slice base len cap) a b m).run P w = .ok z w ∧ VR ρ σ .nils z := by
    intro base len cap hz1 hz2 hlo
    obtain ⟨k1, h1⟩ := zero hz1
    obtain ⟨k2, h2⟩ := zero hz2
    obtain ⟨c1, rfl, hc1⟩ := hhi _ h1
    obtain ⟨c2, rfl, hc2⟩ := hmx _ h2
    rw [hln hlo]
    simp only [Instr.sliceAt, Sem.run_bind, run_underlying hu, Result.andThen_ok, Instr.slice, Instr.sliceBounds]
    rw [bound_ok hc2 (Int.le_refl _) (by omega)]
    simp only [Result.andThen_ok]
    rw [bound_ok hc1 (Int.le_refl _) (by simp)]
    simp only [Result.andThen_ok, Sem.run_pure, run_sizeOf hi']
    exact ⟨_, rfl, .nils⟩
  unfold zeroCut at h
  split at h
  all_goals first
    | (cases h; done)
    | (split at h
       · rename_i hz
         simp only [Bool.and_eq_true] at hz
         cases h
         cases hx
         exact main _ _ _ hz.1 hz.2 rfl
       · cases h)

theorem slice3_ok {x v c lo hi mx t} {a b m : Option Value} {C} (h : slice3 P t x lo hi mx H = some (C, v)) (hC : allP C) (hH : HInv ρ σ D H F w) (hx : VR ρ σ x c)
    (hlo : ∀ x, lo = some x → ∃ c, a = some c ∧ VR ρ σ x c) (hhi : ∀ x, hi = some x → ∃ c, b = some c ∧ VR ρ σ x c) (hmx : ∀ x, mx = some x → ∃ c, m = some c ∧ VR ρ σ x c) :
    ∃ z, (Instr.sliceAt t c a b m).run P w = .ok z w ∧ VR ρ σ v z := by
  unfold slice3 at h
  split at h
  · rename_i e id off len k1 a' k2 b' k3 c' hu
    split at h
    · rename_i i blk' hi' hb
      split at h
      · rename_i hsz
        cases h
        obtain ⟨h1, h2, h3, h4, _⟩ := hC
        obtain ⟨ca, rfl, hca⟩ := hlo _ rfl
        obtain ⟨cb, rfl, hcb⟩ := hhi _ rfl
        obtain ⟨cm, rfl, hcm⟩ := hmx _ rfl
        cases hx
        rename_i L a0 cap hL hc hl
        obtain ⟨M, hM, hB⟩ := hH.blk _ _ hb
        rw [hL] at hM; cases hM
        have hes : i.size = L.es := by rw [hB.1]; simpa using hsz
        simp only [Instr.sliceAt, Sem.run_bind, run_underlying hu, Result.andThen_ok, Instr.slice, Instr.sliceBounds]
        rw [bound_ok hcm (by omega) (by omega)]
        simp only [Result.andThen_ok]
        rw [bound_ok hcb (by omega) (by omega)]
        simp only [Result.andThen_ok, Option.isSome_some, if_true]
        rw [bound_ok hca (by omega) (by omega)]
        simp only [Result.andThen_ok, Sem.run_pure, run_sizeOf hi']
        refine ⟨_, rfl, .sl hL (by omega) fun h0 => ?_⟩
        obtain ⟨ha, hcap⟩ := hc (by omega)
        rw [if_neg (by omega), ha]
        refine ⟨?_, ?_⟩
        · simp only [Option.map_some, add_at, hes, Nat.add_mul]
        · refine Nat.le_trans (Nat.mul_le_mul_right _ ?_) hcap; omega
      · cases h
    · cases h
  · rename_i e α size enc d l k1 a' k2 b' k3 c' hu
    split at h
    · rename_i i hi'
      split at h
      · rename_i hsz
        cases h
        have hsz' : i.size = size := by simpa using hsz
        obtain ⟨h1, h2, h3, h4, _⟩ := hC
        obtain ⟨ca, rfl, hca⟩ := hlo _ rfl
        obtain ⟨cb, rfl, hcb⟩ := hhi _ rfl
        obtain ⟨cm, rfl, hcm⟩ := hmx _ rfl
        cases hx
        rename_i a0 cap g hl hrd hv
        simp only [Instr.sliceAt, Sem.run_bind, run_underlying hu, Result.andThen_ok, Instr.slice, Instr.sliceBounds]
        rw [bound_ok hcm (by omega) (by omega)]
        simp only [Result.andThen_ok]
        rw [bound_ok hcb (by omega) (by omega)]
        simp only [Result.andThen_ok, Option.isSome_some, if_true]
        rw [bound_ok hca (by omega) (by omega)]
        simp only [Result.andThen_ok, Sem.run_pure, run_sizeOf hi']
        have hlen : ((l.take b'.toNat).drop a'.toNat).length = b'.toNat - a'.toNat := by simp; omega
        have hget : ∀ k, k < b'.toNat - a'.toNat → ((l.take b'.toNat).drop a'.toNat).getD k d = l.getD (k + a'.toNat) d := by
          intro k hk
          simp only [List.getD_eq_getElem?_getD, List.getElem?_drop, List.getElem?_take]
          rw [if_pos (by omega), Nat.add_comm]
        refine ⟨_, rfl, ?_⟩
        rw [← hlen]
        refine .ro (fun k j => g (k + a'.toNat) j) (by rw [hlen]; omega) (fun k hk j hj => ?_) (fun k hk j hj => ?_)
        · rw [hlen] at hk
          have := hrd (k + a'.toNat) (by omega) j hj
          by_cases hcx : c'.toNat = a'.toNat
          · omega
          · rw [if_neg hcx]
            cases a0 with
            | none => simp [rd] at this
            | some a0 =>
              obtain ⟨r, o, sp⟩ := a0
              cases sp with
              | some _ => simp [rd] at this
              | none =>
                simp only [Option.map_some, add_at]
                rw [← this]
                simp only [rd, hsz']
                rw [show o + a'.toNat * size + (k * size + j) = o + ((k + a'.toNat) * size + j) by rw [Nat.add_mul]; omega]
        · rw [hlen] at hk
          rw [hget k hk]; exact hv (k + a'.toNat) (by omega) j hj
      · cases h
    · cases h
  · cases h

theorem markO_ok {src dst x a out} (h : markO P src dst x H = some out) (hC : allP out.C) (hH : HInv ρ σ D H F w) (hx : VR ρ σ x a) :
    ∃ z w', (convert src dst a).run P w = .ok z w' ∧ Fin ρ σ D H F out z w' := by
  unfold markO at h
  split at h
  · rename_i e0 e id off n hs hd
    split at h
    · rename_i b hsd he hb
      cases h
      have hsd := Nat.eq_of_beq_eq_true hsd
      subst hsd
      obtain rfl : e0 = e := by rw [hs] at hd; cases hd; rfl
      have hn : 0 < n := hC.1
      cases hx with
      | @sl _ _ _ _ L a0 cap hL hle hc =>
        obtain ⟨rfl, hcap⟩ := hc (Nat.lt_of_lt_of_le hn hle)
        obtain ⟨M, hM, hB⟩ := hH.blk _ _ hb
        rw [hL] at hM; cases hM
        obtain ⟨hes, hpos, hcase⟩ := hB
        have hcap0 : L.cap ≠ 0 := by
          have : 0 < (off + cap) * L.es := Nat.mul_pos (by omega) (by omega)
          omega
        rcases hcase with ⟨h0, _⟩ | ⟨cs, ty, fz, hw, hcs, hle2, hfz, hcell⟩
        · exact absurd h0 hcap0
        · have hsh : w.shape? L.r = some (ty, cs.size) := by simp [World.shape?, hw]
          refine ⟨_, w.freeze { block := L.r, off := cs.size } 1, ?_, σ, .sl hL hle (fun h => ⟨rfl, hcap⟩), leS.refl _, (hH.write (b' := b) hb hL hcap0 (w' := w.freeze { block := L.r, off := cs.size } 1) ⟨rfl, rfl⟩ ?_ ?_).wider (fun _ h => Or.inl h)⟩
          · simp only [convert, Sem.run_bind, run_underlying hs, Result.andThen_ok, beq_self_eq_true, run_underlying he, markStringish, run_shape, hsh, run_freeze, Sem.run_pure]
          · intro r hr
            simp only [World.freeze, Nat.one_ne_zero, if_false, Array.getElem?_modify]
            rw [if_neg (Ne.symm hr)]
          · refine ⟨hes, hpos, .inr ⟨cs, ty, if fz.1 == fz.2 then (cs.size, cs.size + 1) else (min fz.1 cs.size, max fz.2 (cs.size + 1)), ?_, hcs, hle2, ?_, hcell⟩⟩
            · simp only [World.freeze, Nat.one_ne_zero, if_false, Array.getElem?_modify, if_true, hw, Option.map_some]
            · unfold fzOK
              split
              · exact .inr (Nat.le_refl _)
              · rename_i hne
                rcases hfz with h | h
                · exact absurd (by simpa using h) hne
                · exact .inr (by simp only; omega)
    · cases h
  · cases h

theorem optV_some {ev : Operand → V} {a : Act} {o : Option Operand} (h : ∀ x, o = some x → VR ρ σ (ev x) (a.eval x)) : ∀ x, optV ev o = some x → ∃ c, o.map a.eval = some c ∧ VR ρ σ x c := by
  intro x hx
  cases o with
  | none => cases hx
  | some y => cases hx; exact ⟨_, rfl, h y rfl⟩
theorem optV_none {ev : Operand → V} {a : Act} {o : Option Operand} : optV ev o = none → o.map a.eval = none := by
  intro h; cases o with
  | none => rfl
  | some y => cases h

theorem parts_ok {ev : Operand → V} {a : Act} {ps : Array (Nat × Operand)} (h : ∀ p ∈ ps.toList, VR ρ σ (ev p.2) (a.eval p.2)) :
    (evParts ev ps.toList).length = (ps.map fun p => (p.1, a.eval p.2)).size ∧
    ∀ i (h1 : i < (evParts ev ps.toList).length) (h2 : i < (ps.map fun p => (p.1, a.eval p.2)).size), ((evParts ev ps.toList)[i]'h1).1 = ((ps.map fun p => (p.1, a.eval p.2))[i]'h2).1 ∧ VR ρ σ ((evParts ev ps.toList)[i]'h1).2 ((ps.map fun p => (p.1, a.eval p.2))[i]'h2).2 := by
  refine ⟨by rw [evParts_length]; simp, fun i h1 h2 => ?_⟩
  have hi : i < ps.toList.length := by rw [evParts_length] at h1; exact h1
  rw [evParts_get ev ps.toList i hi h1]
  simp only [Array.getElem_map]
  have : ps.toList[i] = ps[i]'(by simpa using hi) := by simp
  rw [this]
  exact ⟨rfl, h _ (Array.getElem_mem_toList _)⟩

theorem eqFs_ok {P : Program} {ρ : Mem} {σ : Sig} {w : World} {d D : Nat} (hrec : ∀ t x y r a b, eqA P d t x y = some r → VR ρ σ x a → VR ρ σ y b → (Op.equalIn D t a b).run P w = .ok r w)
    {l l' : List V} {xs ys : Array Value} (h1 : l.length = xs.size) (h2 : ∀ i (hi : i < xs.size), VR ρ σ (l.getD i .u) xs[i]) (h3 : l'.length = ys.size) (h4 : ∀ i (hi : i < ys.size), VR ρ σ (l'.getD i .u) ys[i]) :
    ∀ (fs : List Field) (r : Bool), eqFs P (eqA P d) l l' fs = some r → (Op.eqFields D xs ys fs).run P w = .ok r w := by
  intro fs; induction fs with
  | nil => intro r h; cases h; rfl
  | cons f fs ih =>
    intro r h
    unfold eqFs at h
    split at h
    · cases h
    · rename_i hne
      split at h
      · rename_i a b ha hb
        split at h
        · rename_i p q hp hq
          cases h
          obtain ⟨za, hza, hva⟩ := partA_ok ha h1 h2 w
          obtain ⟨zb, hzb, hvb⟩ := partA_ok hb h3 h4 w
          have e1 := hrec _ _ _ _ _ _ hp hva hvb
          unfold Op.eqFields
          rw [if_pos hne]
          simp only [Sem.run_bind, hza, hzb, e1, Result.andThen_ok]
          cases p
          · simp
          · simpa using ih q hq
        · cases h
      · cases h

theorem eqA_ok {P : Program} {ρ : Mem} {σ : Sig} {w : World} : ∀ (d : Nat) (t : TypeId) (x y : V) (r : Bool) (a b : Value), eqA P d t x y = some r → VR ρ σ x a → VR ρ σ y b → ∀ k, (Op.equalIn (k + d) t a b).run P w = .ok r w := by
  intro d; induction d with
  | zero => intro t x y r a b h; cases h
  | succ d ih =>
    intro t x y r a b h ha hb k
    rw [show k + (d + 1) = (k + d) + 1 from rfl]
    unfold eqA at h
    split at h
    · split at h
      · rename_i hu
        split at h
        · rename_i hk
          cases h; cases ha; cases hb
          have := kEq_eq hk; subst this
          exact run_equalIn_int w _ _ _ _ _ _ hu
        · cases h
      · cases h
    · split at h
      · rename_i hu
        cases h; cases ha; cases hb
        exact run_equalIn_bool' w _ _ _ _ hu
      · cases h
    · split at h
      · rename_i hu
        cases h; cases ha; cases hb
        rename_i s hs t ht
        rw [run_equalIn_string w _ _ _ _ hu]
        subst hs; subst ht
        rw [str_eq]
      · cases h
    · split at h
      · rename_i fs hu
        split at h
        · rename_i hst
          cases ha; cases hb
          rename_i h1 h2 _ h3 h4
          have hf : P.fieldsOf t = fs := by unfold Program.fieldsOf; rw [hu]
          rw [run_equalIn_struct w _ _ _ _ (by rw [hf]; exact hu) hst, hf]
          exact eqFs_ok (d := d) (fun t x y r a b h ha hb => ih t x y r a b h ha hb k) h1 h2 h3 h4 _ _ h
        · cases h
      · cases h
    · cases h

theorem eqT_ok {P : Program} {ρ : Mem} {σ : Sig} {w : World} {op t x y C v a b} {xo yo : Operand} (h : eqT P op t x y = some (C, v)) (hxy : isAgg2 x y = true) (ha : VR ρ σ x a) (hb : VR ρ σ y b) :
    ∃ z, (do eqGuard op t xo yo a b; binOp op t a b : Sem Value).run P w = .ok z w ∧ VR ρ σ v z := by
  unfold isAgg2 at hxy
  split at hxy
  · unfold eqT at h
    split at h
    · cases h
    · rename_i hg
      split at h
      · rename_i r hr
        have e := fun xs ys => eqA_ok (w := w) (ρ := ρ) (σ := σ) 100 _ _ _ _ xs ys hr
        cases ha; cases hb
        rename_i xs h1 h2 ys h3 h4
        have e := e _ _ (.agg h1 h2) (.agg h3 h4) 9900
        simp only [Sem.run_bind, run_eqGuard_agg w op t xo yo xs ys hg, Result.andThen_ok]
        split at h
        · cases h
          rw [run_eql_struct, e]; exact ⟨_, rfl, .b⟩
        · cases h
          rw [run_neq_struct, e]; exact ⟨_, rfl, .b⟩
        · cases h
      · cases h
  · cases hxy

theorem opO_ok {o : Oper} {ev : Operand → V} {a : Act} {an out} (h : opO P o.op ev H an = some out) (hC : allP out.C) (hS : allS out.S)
    (hH : HInv ρ σ D H F w) (hid : ∀ i ∈ an.ids, σ i = none) (hn : an.ids.Nodup) (hx : ∀ x ∈ o.op.operands.toList, VR ρ σ (ev x) (a.eval x)) :
    Done P ρ σ D H F out w (execOp a.eval o) := by
  obtain ⟨dst, op, type, pos, after, guard⟩ := o
  dsimp only at h hx ⊢
  unfold execOp
  dsimp only
  unfold opO at h
  split at h
  · cases h
    exact ⟨_, w, .inl rfl, Fin.pure hH (hx _ (by simp [Op.operands]))⟩
  · cases h
    exact ⟨_, w, .inl rfl, Fin.pure hH (hx _ (by simp [Op.operands]))⟩
  · rename_i x
    have hx0 := hx x (by simp [Op.operands])
    split at h
    · rename_i id idx sub he
      rw [he] at hx0
      cases h
      dsimp only
      generalize a.eval x = z at hx0 ⊢
      cases hx0
      rename_i L hL
      exact ⟨_, w, .inl rfl, Fin.pure hH (.p hL)⟩
    · rename_i α size enc d l idx sub he
      rw [he] at hx0
      cases h
      dsimp only
      generalize a.eval x = z at hx0 ⊢
      cases hx0
      rename_i r off g hr hv
      exact ⟨_, w, .inl rfl, Fin.pure hH (.rp g hr hv)⟩
    · cases h
  · rename_i op t x y yt
    have hx0 := hx x (by simp [Op.operands])
    have hy0 := hx y (by simp [Op.operands])
    unfold outP at h
    split at h
    · rename_i hag
      split at h
      · rename_i C v hb
        cases h
        exact done_p hH (eqT_ok hb hag hx0 hy0)
      · cases h
    split at h
    · rename_i C v hb
      cases h
      unfold binT at hb
      split at hb
      · rename_i hne
        exact done_p hH (binA_ok (d := .bool) hb hC hx0 hy0 w (fun he => by rw [hne] at he; cases he))
      · split at hb
        · rename_i d hd
          split at hb
          · rename_i he
            exact done_p hH (binA_ok hb hC hx0 hy0 w (fun _ => ⟨hd, he⟩))
          · cases hb
        · cases hb
    · cases h
  · rename_i op t x
    unfold outP at h
    split at h
    · rename_i C v hb
      cases h
      exact done_p hH (unA_ok hb hC (hx x (by simp [Op.operands])) P w)
    · cases h
  · rename_i s d x
    have hx0 := hx x (by simp [Op.operands])
    split at h
    · rename_i id b
      obtain ⟨z, w', hz, hf⟩ := ofStrO_ok h hS hH (hid id (by simp [An.ids])) hx0
      exact done_v hz hf
    · split at h
      · rename_i C v hb
        cases h
        exact done_p hH (convA_ok hb hC hx0 w)
      · split at h
        · rename_i out' hm
          cases h
          obtain ⟨z, w', hz, hf⟩ := markO_ok hm hC hH hx0
          exact done_v hz hf
        · obtain ⟨z, hz, hf⟩ := toStrO_ok h hC hS hH hx0
          exact done_v hz hf
  · rename_i t x lo hi
    have hx0 := hx x (by simp [Op.operands])
    unfold outP at h
    split at h
    · rename_i C v hb
      cases h
      refine done_p hH ?_
      exact sliceA_ok hb hC hH hx0 (optV_some fun y hy => hx y (by simp [Op.operands, hy])) optV_none (optV_some fun y hy => hx y (by simp [Op.operands, hy])) optV_none
    · cases h
  · rename_i t x lo hi mx
    have hx0 := hx x (by simp [Op.operands])
    split at h
    · rename_i e hu
      split at h
      · rename_i i hi'
        have hm : ∀ y, some (ev mx) = some y → ∃ c, some (a.eval mx) = some c ∧ VR ρ σ y c := by
          intro y hy; cases hy; exact ⟨_, rfl, hx mx (by simp [Op.operands])⟩
        split at h
        · rename_i r hb
          obtain ⟨C, v⟩ := r
          simp only [outP] at h
          cases h
          refine done_p hH ?_
          exact zeroCut_ok hb hx0 hu hi' optV_none (optV_some fun y hy => hx y (by simp [Op.operands, hy])) hm
        · unfold outP at h
          split at h
          · rename_i C v hb
            cases h
            refine done_p hH ?_
            exact slice3_ok hb hC hH hx0 (optV_some fun y hy => hx y (by simp [Op.operands, hy])) (optV_some fun y hy => hx y (by simp [Op.operands, hy])) hm
          · cases h
      · cases h
    · cases h
  · rename_i s x f
    unfold outV at h
    split at h
    · rename_i v hb
      cases h
      exact done_p hH (fieldA_ok hb (hx x (by simp [Op.operands])) w)
    · cases h
  · rename_i t x f
    unfold outV at h
    split at h
    · rename_i v hb
      cases h
      exact done_p hH (fieldV_ok hb (hx x (by simp [Op.operands])) w)
    · cases h
  · rename_i t x ix
    unfold outP at h
    split at h
    · rename_i C v hb
      cases h
      exact done_p hH (idxA_ok hb hC hH (hx x (by simp [Op.operands])) (hx ix (by simp [Op.operands])))
    · cases h
  · rename_i t x ix
    have hx0 := hx x (by simp [Op.operands])
    split at h
    · rename_i l hu he
      unfold outP at h
      split at h
      · rename_i C v hb
        cases h
        rw [he] at hx0
        refine done_p hH ?_
        generalize a.eval x = z at hx0 ⊢
        cases hx0
        rename_i s hs
        exact idxS_ok hb hC hs (hx ix (by simp [Op.operands])) hu w
      · cases h
    · cases h
  · rename_i x i
    unfold outV at h
    split at h
    · rename_i v hb
      cases h
      exact done_p hH (extractA_ok hb (hx x (by simp [Op.operands])) P w)
    · cases h
  · rename_i t parts
    unfold outV at h
    split at h
    · rename_i v hb
      cases h
      obtain ⟨h1, h2⟩ := parts_ok (ρ := ρ) (σ := σ) (ev := ev) (a := a) (ps := parts) (fun p hp => hx p.2 (by simp only [Op.operands, List.mem_map]; exact ⟨p, hp, rfl⟩))
      exact done_p hH (buildA_ok hb h1 h2 w)
    · cases h
  · rename_i fn first cap
    cases h
    refine ⟨_, w, .inl rfl, Fin.pure hH ?_⟩
    have h1 := VRs_args (ρ := ρ) (σ := σ) (args := first) (ev := ev) (a := a) (fun x hxm => hx x (by simp [Op.operands, Array.mem_toList_iff.1 hxm]))
    have h2 := VRs_args (ρ := ρ) (σ := σ) (args := cap) (ev := ev) (a := a) (fun x hxm => hx x (by simp [Op.operands, Array.mem_toList_iff.1 hxm]))
    exact .fn h1.1 h1.2 h2.1 h2.2
  · rename_i t x
    split at h
    · rename_i d hd
      split at h
      · cases h
      · rename_i hi
        cases h
        have hx0 := hx x (by simp [Op.operands])
        refine done_v (z := .iface t (a.eval x)) ?_ (Fin.pure hH (.iface hx0))
        simp only [Instr.makeInterface, Sem.run_bind, run_underlying hd, Result.andThen_ok]
        cases d <;> first | rfl | (simp [isIfc] at hi)
    · cases h
  · rename_i t x
    obtain ⟨z, hz, hf⟩ := loadO_ok h hC hH (hx x (by simp [Op.operands]))
    exact done_v hz hf
  · rename_i t x y
    obtain ⟨w', hz, hf⟩ := storeO_ok h hC hS hH (hx x (by simp [Op.operands])) (hx y (by simp [Op.operands]))
    exact ⟨undef, w', .inr ⟨by simp [hz], rfl⟩, hf⟩
  · rename_i e
    split at h
    · rename_i id b z hz
      obtain ⟨i, zv, hi, hzv, rfl⟩ := zeroL_some hz
      have := boxO_ok h hS hH (hid id (by simp [An.ids])) (toV_cells zv) e
      refine done_v ?_ this
      simp [Instr.alloc, run_zeroValue hi hzv, newVar, newRow]
    · cases h
  · rename_i e x
    have hx0 := hx x (by simp [Op.operands])
    split at h
    · rename_i id b
      split at h
      · rename_i hnt
        have := boxO_ok h hS hH (hid id (by simp [An.ids])) (vcells_ok hx0 hnt) e
        refine done_v ?_ this
        simp [Instr.box, newVar, newRow]
      · cases h
    · cases h
  · rename_i t n parts
    split at h
    · rename_i id b
      obtain ⟨h1, h2⟩ := parts_ok (ρ := ρ) (σ := σ) (ev := ev) (a := a) (ps := parts) (fun p hp => hx p.2 (by simp only [Op.operands, List.mem_map]; exact ⟨p, hp, rfl⟩))
      obtain ⟨z, w', hz, hf⟩ := buildSliceO_ok h hS hH (hid id (by simp [An.ids])) h1 h2
      exact done_v hz hf
    · cases h
  · rename_i t l c
    split at h
    · rename_i id b
      obtain ⟨z, w', hz, hf⟩ := makeSliceO_ok h hC hS hH (hid id (by simp [An.ids])) (hx l (by simp [Op.operands])) (hx c (by simp [Op.operands]))
      exact done_v hz hf
    · cases h
  · rename_i b args ats
    have h2 := VRs_args (ρ := ρ) (σ := σ) (args := args) (ev := ev) (a := a) (fun x hxm => hx x (by simp [Op.operands, Call.operands, Array.mem_toList_iff.1 hxm]))
    exact bltO_ok (ty := type) h hC hS hH hid hn h2
  · cases h

end
end Go.Proofs.YtiekchfipaiflaaGreatDoor
