/- Operations that compute alone: their abstract meaning, and that the model does the same. -/
import Derived.Test.YtiekchfipaiflaaGreatDoorLc
namespace Go.Proofs.YtiekchfipaiflaaGreatDoor
open Go

def allP : List Prop → Prop
  | [] => True
  | p :: r => p ∧ allP r

theorem intA_ok {ρ σ op k a b C v} (h : intA op k a b = some (C, v)) (hC : allP C) (hs : isShift op = false) (P : Program) (w : World) :
    ∃ x, (match op with
      | .add | .sub | .mul => Op.intArith op k a b
      | .quo | .rem => Op.intDiv op k a b
      | .and | .or | .xor | .andNot => Op.intBits op k a b
      | _ => Op.intCmp op a b).run P w = .ok x w ∧ VR ρ σ v x := by
  have one : isI64 k = true → k = .i64 := by cases k <;> simp [isI64]
  cases op <;> simp only [intA] at h <;> (try (simp [isShift] at hs; done)) <;> (try (simp at h; done))
  case add =>
    simp only [Option.some.injEq] at h
    by_cases hk : isI64 k = true
    · rw [if_pos hk] at h; cases h; have := one hk; subst this
      exact ⟨_, rfl, by rw [wrap_in hC.1]; exact .i (.inl rfl)⟩
    · rw [if_neg hk] at h; cases h; exact ⟨_, rfl, .i (ok_wrap _ _)⟩
  case sub =>
    simp only [Option.some.injEq] at h
    by_cases hk : isI64 k = true
    · rw [if_pos hk] at h; cases h; have := one hk; subst this
      exact ⟨_, rfl, by rw [wrap_in hC.1]; exact .i (.inl rfl)⟩
    · rw [if_neg hk] at h; cases h; exact ⟨_, rfl, .i (ok_wrap _ _)⟩
  case mul => cases h; exact ⟨_, rfl, .i (ok_wrap _ _)⟩
  case quo =>
    simp only [Option.some.injEq] at h
    by_cases hk : isI64 k = true
    · rw [if_pos hk] at h; cases h; have := one hk; subst this
      refine ⟨.int .i64 (a.tdiv b), ?_, .i (.inl rfl)⟩
      simp only [Op.intDiv, if_neg hC.1, Sem.run_pure]
      rw [wrap_in hC.2.1]
    · rw [if_neg hk] at h; cases h
      refine ⟨_, ?_, .i (ok_wrap _ _)⟩
      simp only [Op.intDiv, if_neg hC.1, Sem.run_pure]
  case rem =>
    simp only [Option.some.injEq] at h
    by_cases hk : isI64 k = true
    · rw [if_pos hk] at h; cases h; have := one hk; subst this
      refine ⟨_, ?_, .i (.inl rfl)⟩
      simp only [Op.intDiv, if_neg hC.1, Sem.run_pure]
    · rw [if_neg hk] at h; cases h
      refine ⟨_, ?_, .i (.inr hC.2.1)⟩
      simp only [Op.intDiv, if_neg hC.1, Sem.run_pure]
  case and => cases h; exact ⟨_, rfl, .i (ok_wrap _ _)⟩
  case or => cases h; exact ⟨_, rfl, .i (ok_wrap _ _)⟩
  case xor => cases h; exact ⟨_, rfl, .i (ok_wrap _ _)⟩
  case andNot => cases h; exact ⟨_, rfl, .i (ok_wrap _ _)⟩
  case eql => cases h; exact ⟨_, rfl, by rw [show decide (a = b) = (a == b) from rfl]; exact .b⟩
  case neq => cases h; exact ⟨_, rfl, by rw [show (!decide (a = b)) = (a != b) from rfl]; exact .b⟩
  all_goals (cases h; exact ⟨_, rfl, .b⟩)

theorem shA_ok {ρ σ op k yk a b C v} (h : shA op k a b = some (C, v)) (hC : allP C) (P : Program) (w : World) :
    ∃ x, (Op.shift op k a yk b).run P w = .ok x w ∧ VR ρ σ v x := by
  cases op <;> simp only [shA] at h <;> (try (simp at h; done))
  · cases h
    exact ⟨_, by simp only [Op.shift, if_neg (show ¬ b < 0 by have := hC.1; omega), Sem.run_pure], .i (ok_wrap _ _)⟩
  · simp only [Option.some.injEq] at h
    by_cases hk : isI64 k = true
    · rw [if_pos hk] at h; cases h
      have : k = .i64 := by cases k <;> simp [isI64] at hk ⊢
      exact ⟨_, by simp only [Op.shift, if_neg (show ¬ b < 0 by have := hC.1; omega), Sem.run_pure], .i (.inl this)⟩
    · rw [if_neg hk] at h; cases h
      exact ⟨_, by simp only [Op.shift, if_neg (show ¬ b < 0 by have := hC.1; omega), Sem.run_pure], .i (.inr hC.2.1)⟩

theorem strA_ok {ρ σ op a b C v} {s t : ByteArray} (hs : s.data.toList.map (fun c : UInt8 => (c.toNat : Int)) = a) (ht : t.data.toList.map (fun c : UInt8 => (c.toNat : Int)) = b)
    (h : strA op a b = some (C, v)) (hC : allP C) (P : Program) (w : World) :
    ∃ x, (Op.stringOp op s t).run P w = .ok x w ∧ VR ρ σ v x := by
  subst hs ht
  cases op <;> simp only [strA] at h <;> (try (simp at h; done))
  · cases h
    have h1 := hC.1
    have : ¬ ((s.size + t.size : Nat) : Int) > IntKind.i64.max := by
      simp only [List.length_map, Array.length_toList] at h1
      have e1 : s.size = s.data.size := rfl
      have e2 : t.size = t.data.size := rfl
      have : IntKind.i64.max = i64max := by decide
      rw [this, e1, e2]; omega
    refine ⟨.string (s ++ t), by simp only [Op.stringOp, if_neg this, Sem.run_pure], .s ?_⟩
    simp
  · cases h; exact ⟨_, rfl, by rw [str_eq]; exact .b⟩
  · cases h; exact ⟨_, rfl, by rw [str_eq]; exact .b⟩

def isAggV : Value → Bool
  | .agg _ => true
  | _ => false
def isNilI : Value → Bool
  | .nilIface => true
  | _ => false
theorem eqGuard_skip {P : Program} {w : World} {op t x y} {a b : Value} (h : isAggV a = false) (h' : isNilI a = false ∨ isNilI b = false) :
    (eqGuard op t x y a b).run P w = .ok () w := by
  unfold eqGuard
  cases op <;> try rfl
  all_goals
    simp only []
    split
    · rfl
    · split
      · simp [isNilI] at h'
      · simp [isAggV] at h
      · rfl

theorem equal_succ : ∃ d, ∀ t x y, Op.equal t x y = Op.equalIn (d + 1) t x y := ⟨9999, fun _ _ _ => rfl⟩
section
variable {P : Program} {t : TypeId}
theorem equal_bool (h : P.underlying t = some .bool) (a b : Bool) (w : World) : (Op.equal t (.bool a) (.bool b)).run P w = .ok (a == b) w := by
  obtain ⟨d, hd⟩ := equal_succ
  rw [hd]; simp [Op.equalIn, run_underlying h]
theorem equal_ptr_nn {e} (h : P.underlying t = some (.pointer e)) (b : Option Addr) (w : World) : (Op.equal t (.pointer none) (.pointer b)).run P w = .ok b.isNone w := by
  obtain ⟨d, hd⟩ := equal_succ
  rw [hd]; simp [Op.equalIn, run_underlying h]
theorem equal_ptr_sn {e} (h : P.underlying t = some (.pointer e)) (b : Addr) (w : World) : (Op.equal t (.pointer (some b)) (.pointer none)).run P w = .ok false w := by
  obtain ⟨d, hd⟩ := equal_succ
  rw [hd]; simp [Op.equalIn, run_underlying h]
theorem equal_if_sn {e} (h : P.underlying t = some (.interface e)) (b x) (w : World) : (Op.equal t (.iface b x) .nilIface).run P w = .ok false w := by
  obtain ⟨d, hd⟩ := equal_succ
  rw [hd]; simp [Op.equalIn, run_underlying h]
theorem equal_if_ns {e} (h : P.underlying t = some (.interface e)) (b x) (w : World) : (Op.equal t .nilIface (.iface b x)).run P w = .ok false w := by
  obtain ⟨d, hd⟩ := equal_succ
  rw [hd]; simp [Op.equalIn, run_underlying h]
end

theorem bin_eql {P : Program} {t : TypeId} {a b : Value} {r : Bool} {w : World} (h : (Op.equal t a b).run P w = .ok r w)
    (hb : binOp .eql t a b = (do pure (.bool (← Op.equal t a b)))) : (binOp .eql t a b).run P w = .ok (.bool r) w := by
  rw [hb]; simp [h]
theorem bin_neq {P : Program} {t : TypeId} {a b : Value} {r : Bool} {w : World} (h : (Op.equal t a b).run P w = .ok r w)
    (hb : binOp .neq t a b = (do pure (.bool (!(← Op.equal t a b))))) : (binOp .neq t a b).run P w = .ok (.bool (!r)) w := by
  rw [hb]; simp [h]

/-- What an equality asks of the type. -/
def eqTy (x y : V) (d : TypeDesc) : Bool :=
  match x, y with
  | .b _, .b _ => (match d with | .bool => true | _ => false)
  | .i .., .i .. => true
  | .s _, .s _ => true
  | .niliface, _ | .iface .., _ => (match d with | .interface _ => true | _ => false)
  | _, _ => (match d with | .pointer _ => true | _ => false)

set_option maxHeartbeats 1000000 in
theorem binA_ok {ρ σ P op t x y a b C v} {xo yo : Operand} (h : binA op x y = some (C, v)) (hC : allP C) (hx : VR ρ σ x a) (hy : VR ρ σ y b) (w : World)
    {d} (hd : isEq op = true → P.underlying t = some d ∧ eqTy x y d = true) :
    ∃ z, (do eqGuard op t xo yo a b; binOp op t a b : Sem Value).run P w = .ok z w ∧ VR ρ σ v z := by
  have hsh : ∀ {op k a' b' k'}, isShift op = true → (binOp op t (.int k a') (.int k' b')) = Op.shift op k a' k' b' := by
    intro op k a' b' k' h; cases op <;> first | rfl | simp [isShift] at h
  simp only [Sem.run_bind]
  unfold binA at h
  split at h
  · cases hx; cases hy
    rw [eqGuard_skip rfl (.inl rfl)]
    simp only [Result.andThen_ok]
    by_cases hs : isShift op = true
    · rw [if_pos hs] at h; rw [hsh hs]; exact shA_ok h hC P w
    · rw [if_neg hs] at h
      split at h
      · rename_i hk
        have := kEq_eq hk; subst this
        obtain ⟨z, hz, hv⟩ := intA_ok (ρ := ρ) (σ := σ) h hC (by simpa using hs) P w
        refine ⟨z, ?_, hv⟩
        rw [← hz]
        cases op <;> simp [isShift] at hs <;> simp only [binOp, ne_eq, not_true_eq_false, if_false]
      · cases h
  · cases hx; cases hy
    rename_i s1 hs1 t1 ht1
    rw [eqGuard_skip rfl (.inl rfl)]
    simp only [Result.andThen_ok]
    obtain ⟨z, hz, hv⟩ := strA_ok (ρ := ρ) (σ := σ) hs1 ht1 h hC P w
    refine ⟨z, ?_, hv⟩
    rw [← hz]
    cases op <;> rfl
  · cases hx; cases hy
    rw [eqGuard_skip rfl (.inl rfl)]
    simp only [Result.andThen_ok]
    split at h
    · cases h; obtain ⟨hu, he⟩ := hd rfl
      have : d = .bool := by cases d <;> simp [eqTy] at he ⊢
      subst this
      exact ⟨_, bin_eql (equal_bool hu _ _ w) rfl, .b⟩
    · cases h; obtain ⟨hu, he⟩ := hd rfl
      have : d = .bool := by cases d <;> simp [eqTy] at he ⊢
      subst this
      exact ⟨_, bin_neq (equal_bool hu _ _ w) rfl, .b⟩
    · cases h
  · cases hx; cases hy
    rw [eqGuard_skip rfl (.inl rfl)]
    simp only [Result.andThen_ok]
    split at h
    · cases h; obtain ⟨hu, he⟩ := hd rfl
      obtain ⟨e, rfl⟩ : ∃ e, d = .pointer e := by cases d <;> simp [eqTy] at he ⊢
      exact ⟨_, bin_eql (equal_ptr_nn hu _ w) rfl, .b⟩
    · cases h; obtain ⟨hu, he⟩ := hd rfl
      obtain ⟨e, rfl⟩ : ∃ e, d = .pointer e := by cases d <;> simp [eqTy] at he ⊢
      exact ⟨_, bin_neq (equal_ptr_nn hu _ w) rfl, .b⟩
    · cases h
  · cases hx; cases hy
    rw [eqGuard_skip rfl (.inl rfl)]
    simp only [Result.andThen_ok]
    split at h
    · cases h; obtain ⟨hu, he⟩ := hd rfl
      obtain ⟨e, rfl⟩ : ∃ e, d = .pointer e := by cases d <;> simp [eqTy] at he ⊢
      exact ⟨_, bin_eql (equal_ptr_sn hu _ w) rfl, .b⟩
    · cases h; obtain ⟨hu, he⟩ := hd rfl
      obtain ⟨e, rfl⟩ : ∃ e, d = .pointer e := by cases d <;> simp [eqTy] at he ⊢
      exact ⟨_, bin_neq (equal_ptr_sn hu _ w) rfl, .b⟩
    · cases h
  · cases hx; cases hy
    rw [eqGuard_skip rfl (.inl rfl)]
    simp only [Result.andThen_ok]
    split at h
    · cases h; obtain ⟨hu, he⟩ := hd rfl
      obtain ⟨e, rfl⟩ : ∃ e, d = .pointer e := by cases d <;> simp [eqTy] at he ⊢
      exact ⟨_, bin_eql (equal_ptr_nn hu _ w) rfl, .b⟩
    · cases h; obtain ⟨hu, he⟩ := hd rfl
      obtain ⟨e, rfl⟩ : ∃ e, d = .pointer e := by cases d <;> simp [eqTy] at he ⊢
      exact ⟨_, bin_neq (equal_ptr_nn hu _ w) rfl, .b⟩
    · cases h
  · cases hx; cases hy
    rw [eqGuard_skip rfl (.inl rfl)]
    simp only [Result.andThen_ok]
    split at h
    · cases h; obtain ⟨hu, he⟩ := hd rfl
      obtain ⟨e, rfl⟩ : ∃ e, d = .pointer e := by cases d <;> simp [eqTy] at he ⊢
      exact ⟨_, bin_eql (equal_ptr_sn hu _ w) rfl, .b⟩
    · cases h; obtain ⟨hu, he⟩ := hd rfl
      obtain ⟨e, rfl⟩ : ∃ e, d = .pointer e := by cases d <;> simp [eqTy] at he ⊢
      exact ⟨_, bin_neq (equal_ptr_sn hu _ w) rfl, .b⟩
    · cases h
  · cases hx; cases hy
    rw [eqGuard_skip rfl (.inl rfl)]
    simp only [Result.andThen_ok]
    split at h
    · cases h; obtain ⟨hu, he⟩ := hd rfl
      obtain ⟨e, rfl⟩ : ∃ e, d = .pointer e := by cases d <;> simp [eqTy] at he ⊢
      exact ⟨_, bin_eql (equal_ptr_nn hu _ w) rfl, .b⟩
    · cases h; obtain ⟨hu, he⟩ := hd rfl
      obtain ⟨e, rfl⟩ : ∃ e, d = .pointer e := by cases d <;> simp [eqTy] at he ⊢
      exact ⟨_, bin_neq (equal_ptr_nn hu _ w) rfl, .b⟩
    · cases h
  · cases h
  · cases hx; cases hy
    rw [eqGuard_skip rfl (.inl rfl)]
    simp only [Result.andThen_ok]
    split at h
    · cases h; obtain ⟨hu, he⟩ := hd rfl
      obtain ⟨e, rfl⟩ : ∃ e, d = .interface e := by cases d <;> simp [eqTy] at he ⊢
      exact ⟨_, bin_eql (equal_if_sn hu _ _ w) rfl, .b⟩
    · cases h; obtain ⟨hu, he⟩ := hd rfl
      obtain ⟨e, rfl⟩ : ∃ e, d = .interface e := by cases d <;> simp [eqTy] at he ⊢
      exact ⟨_, bin_neq (equal_if_sn hu _ _ w) rfl, .b⟩
    · cases h
  · cases hx; cases hy
    rw [eqGuard_skip rfl (.inr rfl)]
    simp only [Result.andThen_ok]
    split at h
    · cases h; obtain ⟨hu, he⟩ := hd rfl
      obtain ⟨e, rfl⟩ : ∃ e, d = .interface e := by cases d <;> simp [eqTy] at he ⊢
      exact ⟨_, bin_eql (equal_if_ns hu _ _ w) rfl, .b⟩
    · cases h; obtain ⟨hu, he⟩ := hd rfl
      obtain ⟨e, rfl⟩ : ∃ e, d = .interface e := by cases d <;> simp [eqTy] at he ⊢
      exact ⟨_, bin_neq (equal_if_ns hu _ _ w) rfl, .b⟩
    · cases h
  · cases h

end Go.Proofs.YtiekchfipaiflaaGreatDoor
