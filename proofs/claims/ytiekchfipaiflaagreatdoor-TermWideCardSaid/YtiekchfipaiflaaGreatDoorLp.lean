/- One operation with its guard, and a region in the order of the text. -/
import Derived.Test.YtiekchfipaiflaaGreatDoorLo
namespace Go.Proofs.YtiekchfipaiflaaGreatDoor
open Go

structure CallD (P : Program) (G : Glob) : Type 1 where
  K : FuncId
  args : List V
  blks : List (Nat × Blk)
  v : V
  wr : List (Nat × Option Blk)
  enter : ∀ args w, (callFunc K args).run P w = .ok (.enter K args) w
  ok : CallOK P G K args blks v wr

inductive RAnn (P : Program) (G : Glob) : Type 1
  | op (a : An)
  | must (a : An)
  | skip
  | known (a : An) (d : Bool)
  | call (c : CallD P G)
  | pk (d : Bool)
  | weak (a : An) (v : V)
  | frz (a : An) (id : Nat)
  | re (id : Nat) (b : Blk) (wk : Bool) (a : An)
  | ix (k : Int)

structure ROut : Type 1 where
  C : List Prop
  S : List (List V × List V)
  T : List (Option Core × Option Core)
  e : Ent
  wr : List (Nat × Option Blk)
  fr : List Nat

def dstOf (ops : List Oper) (j : Nat) : Option Nat :=
  match ops[j]? with
  | some o => o.dst
  | none => none

/-- The guard of an operation: none; a truth. -/
def gd (ops : List Oper) (env : Nat → Option Ent) (g : Option (Nat × Bool)) : Option (Option Bool) :=
  match g with
  | none => some none
  | some (j, want) => match dstOf ops j with
    | none => none
    | some d => match env d with
      | some ⟨none, .b x⟩ => some (some (match want with | true => x | false => !x))
      | some ⟨some y, .b x⟩ => some (some (y && (match want with | true => x | false => !x)))
      | _ => none

theorem gd_none {ops env g} (h : gd ops env g = some none) : g = none := by
  unfold gd at h
  split at h
  · rfl
  · split at h
    · cases h
    · split at h <;> cases h

theorem gd_some {ρ σ env n b} {ops : Array Oper} {o : Oper} {tmps : Array Value} (h : gd ops.toList env o.guard = some (some b)) (hE : EnvR ρ σ env n tmps) :
    Region.wanted o (yielded ops tmps) = b := by
  unfold gd at h
  split at h
  · cases h
  · rename_i j want hg
    split at h
    · cases h
    · rename_i d hd
      have hd' : (ops[j]?).bind (·.dst) = some d := by
        unfold dstOf at hd
        rw [Array.getElem?_toList] at hd
        cases hj : ops[j]? with
        | none => rw [hj] at hd; cases hd
        | some o' => rw [hj] at hd; exact hd
      unfold Region.wanted yielded
      rw [hg]
      simp only [hd', Option.bind_some]
      split at h
      · rename_i x he
        cases h
        obtain ⟨hlt, hr⟩ := hE.2 d _ he
        simp only [entR] at hr
        have hlt' : d < tmps.size := by rw [hE.1]; exact hlt
        rw [Array.getElem?_eq_getElem hlt']
        have : tmps.getD d undef = tmps[d] := by simp [Array.getD, hlt']
        rw [this] at hr
        generalize tmps[d] = z at hr ⊢
        cases hr
        cases want <;> cases x <;> rfl
      · rename_i y x he
        cases h
        obtain ⟨hlt, hr⟩ := hE.2 d _ he
        simp only [entR] at hr
        have hlt' : d < tmps.size := by rw [hE.1]; exact hlt
        rw [Array.getElem?_eq_getElem hlt']
        have : tmps.getD d undef = tmps[d] := by simp [Array.getD, hlt']
        rw [this] at hr
        generalize tmps[d] = z at hr ⊢
        cases y with
        | true =>
          have := hr.1 rfl
          cases this
          cases want <;> cases x <;> rfl
        | false =>
          have := hr.2 rfl
          subst this
          rfl
      · cases h

def mustC (og : Option Bool) : List Prop :=
  match og with
  | none => []
  | some b => [b = true]

def isOne {α : Type 1} : List α → Bool
  | [] => true
  | _ => false

def freshOf (blks : List (Nat × Blk)) : List (Nat × Option Blk) → List Nat
  | [] => []
  | (i, _) :: r => if (blks.any fun p => p.1 == i) then freshOf blks r else i :: freshOf blks r

def pickC (og : Option Bool) (x : Bool) (want : Bool) (g : Option Bool) : List Prop :=
  match g with
  | none => []
  | some e => [under og (x = want → e = true)]

def nodupB : List Nat → Bool
  | [] => true
  | i :: r => !(r.any fun j => Nat.beq i j) && nodupB r

def blkS (H : Heap) : List (Nat × Blk) → Option (List (List V × List V))
  | [] => some []
  | (i, b) :: r => match H i, blkS H r with
    | some b', some S => match Nat.beq b'.size b.size with
      | true => some ((cellsOf b', cellsOf b) :: S)
      | false => none
    | _, _ => none

def callS (P : Program) (G : Glob) (env : Nat → Option Ent) (H : Heap) (o : Op) (c : CallD P G) : Option (List (List V × List V) × List (Option Core × Option Core)) :=
  match o with
  | .call ⟨.value f, args, _⟩ => match evO G env f with
    | .fn (.func K) first cap => if Nat.beq K c.K && nodupB (c.blks.map (·.1)) then (match blkS H c.blks with
      | some S => some ((c.args, first ++ (args.toList.map (evO G env) ++ cap)) :: S, [])
      | none => none) else none
    | _ => none
  | _ => none

/-- Weaker values: nothing is known of one; an empty slice is one of nothing. -/
def weak0 : V → V → V
  | .u, _ => .u
  | .ro α size enc d [], .nils => .ro α size enc d []
  | _, s => s
def zipW : List V → List V → List V
  | t :: r, s :: q => weak0 t s :: zipW r q
  | _, l => l
def weak1 : V → V → V
  | .agg l, .agg l' => .agg (zipW l l')
  | t, s => weak0 t s
def closed0 : V → Bool
  | .p .. | .sl .. | .agg _ | .tup _ | .fn .. | .iface .. => false
  | _ => true
def closedS (b : Blk) : List V × List V := (b.l.map fun y => .agg ((b.enc y).map fun v => .b (closed0 v)), b.l.map fun _ => .agg (List.replicate b.size (.b true)))
/-- A block of which less is known. -/
def zipW1 : List V → List V → List V
  | t :: r, s :: q => weak1 t s :: zipW1 r q
  | _, l => l
def reS (wk : Bool) (b b0 : Blk) : List V × List V :=
  match wk with
  | true => (cellsOf b, zipW1 (cellsOf b) (cellsOf b0))
  | false => (cellsOf b, cellsOf b0)
def pickB (p q r : Bool) : Bool :=
  match p with
  | true => q
  | false => r

def stepR {P : Program} {G : Glob} (ops : List Oper) (o : Oper) (an : RAnn P G) (env : Nat → Option Ent) (H : Heap) : Option ROut :=
  match gd ops env o.guard with
  | none => none
  | some og => match an with
    | .skip => match og with
      | none => none
      | some b => some ⟨[b = false], [], [], ⟨some false, .u⟩, [], []⟩
    | .op a => match o.op with
      | .pick c x y => match evO G env c, evO G env x, evO G env y with
        | .b p, .b q, .b r => some ⟨guardC og env [c] ++ (pickC og p true (gO env x) ++ pickC og p false (gO env y)), [], [], ⟨og, .b (pickB p q r)⟩, [], []⟩
        | _, _, _ => none
      | op => match opO P op (evO G env) H a with
        | some out => match og with
          | none => some ⟨guardC none env op.operands.toList ++ out.C, out.S, [], ⟨none, out.v⟩, out.wr, a.ids⟩
          | some b => if isOne out.wr then some ⟨guardC og env op.operands.toList ++ out.C.map (under og), out.S, [], ⟨some b, out.v⟩, [], a.ids⟩ else none
        | none => none
    | .must a => match opO P o.op (evO G env) H a with
      | some out => some ⟨mustC og ++ (guardC none env o.op.operands.toList ++ out.C), out.S, [], ⟨none, out.v⟩, out.wr, a.ids⟩
      | none => none
    | .known a d => match opO P o.op (evO G env) H a with
      | some out => match out.v with
        | .b x => some ⟨mustC og ++ (guardC none env o.op.operands.toList ++ (out.C ++ [x = d])), out.S, [], ⟨none, .b d⟩, out.wr, a.ids⟩
        | _ => none
      | none => none
    | .call c => match callS P G env H o.op c with
      | some (S, T) => some ⟨mustC og ++ guardC none env o.op.operands.toList, S, T, ⟨none, c.v⟩, c.wr, freshOf c.blks c.wr⟩
      | none => none
    | .pk d => match o.op with
      | .pick c x y => match evO G env c with
        | .b p => match d with
          | true => some ⟨mustC og ++ (guardC none env [c] ++ (guardC none env [x] ++ [p = true])), [], [], ⟨none, evO G env x⟩, [], []⟩
          | false => some ⟨mustC og ++ (guardC none env [c] ++ (guardC none env [y] ++ [p = false])), [], [], ⟨none, evO G env y⟩, [], []⟩
        | _ => none
      | _ => none
    | .weak a v => match opO P o.op (evO G env) H a with
      | some out => some ⟨mustC og ++ (guardC none env o.op.operands.toList ++ out.C), ([v], [weak1 v out.v]) :: out.S, [], ⟨none, v⟩, out.wr, a.ids⟩
      | none => none
    | .frz a id => match opO P o.op (evO G env) H a with
      | some out => match out.v, out.wr, H id with
        | .sl id' off n, [], some b => match Nat.beq id' id with
          | true => some ⟨mustC og ++ (guardC none env o.op.operands.toList ++ (out.C ++ [off + n ≤ b.l.length])), closedS b :: out.S, [],
              ⟨none, .ro b.α b.size b.enc b.d ((b.l.drop off).take n)⟩, [(id, none)], a.ids⟩
          | false => none
        | _, _, _ => none
      | none => none
    | .ix q => match o.op with
      | .indexAddr t x i => match evO G env i with
        | .i kd n => match idxA P t (evO G env x) (.i kd q) H with
          | some (C, v) => some ⟨mustC og ++ (guardC none env o.op.operands.toList ++ ((n = q) :: C)), [], [], ⟨none, v⟩, [], []⟩
          | none => none
        | _ => none
      | _ => none
    | .re id b wk a => match H id with
      | some b0 => match opO P o.op (evO G env) (upd H id (some b)) a with
        | some out => match Nat.beq b.size b0.size with
          | true => some ⟨mustC og ++ (guardC none env o.op.operands.toList ++ out.C), reS wk b b0 :: out.S, [], ⟨none, out.v⟩, (id, some b) :: out.wr, a.ids⟩
          | false => none
        | none => none
      | none => none

theorem allP_append {a b : List Prop} (h : allP (a ++ b)) : allP a ∧ allP b := by
  induction a with
  | nil => exact ⟨trivial, h⟩
  | cons x r ih => exact ⟨⟨h.1, (ih h.2).1⟩, (ih h.2).2⟩
theorem allP_under {b : Bool} (hb : b = true) : ∀ {C : List Prop}, allP (C.map (under (some b))) → allP C := by
  intro C
  induction C with
  | nil => intro _; trivial
  | cons x r ih => intro h; exact ⟨h.1 hb, ih h.2⟩

theorem must_ok {og : Option Bool} {ρ σ env n} {ops : Array Oper} {o : Oper} {tmps : Array Value} (h : gd ops.toList env o.guard = some og) (hm : allP (mustC og)) (hE : EnvR ρ σ env n tmps) :
    Region.wanted o (yielded ops tmps) = true := by
  cases og with
  | none => unfold Region.wanted; rw [gd_none h]
  | some b => rw [gd_some h hE]; exact hm.1

theorem fin_wp {P : Program} {ρ σ D H F out} {o : Oper} {a : Act} {w : World} {K : Act → World → Prop} {Q : Exit → Act → World → Prop}
    (hd : Done P ρ σ D H F out w (execOp a.eval o)) (hK : ∀ x σ' w', leS σ σ' → VR ρ σ' out.v x → HInv ρ σ' (fun j => D j ∨ j ∈ out.wr.map (·.1)) (applyW out.wr H) F w' → K (a.put o.dst x) w') : o.wp P a w K Q := by
  obtain ⟨val, w', hr, σ', hv, hs, hH⟩ := hd
  unfold Oper.wp
  rcases hr with hr | ⟨hr, rfl⟩
  · rw [hr]; exact hK val σ' w' hs hv hH
  · rw [hr]; exact hK undef σ' w' hs hv hH


theorem appV_getD (l r : List V) (k : Nat) : (l ++ r).getD k .u = if k < l.length then l.getD k .u else r.getD (k - l.length) .u := by
  simp only [List.getD_eq_getElem?_getD]
  by_cases h : k < l.length
  · rw [if_pos h, List.getElem?_append_left h]
  · rw [if_neg h, List.getElem?_append_right (by omega)]

theorem nodupB_ok : ∀ {l : List Nat}, nodupB l = true → l.Nodup := by
  intro l; induction l with
  | nil => intro _; exact List.nodup_nil
  | cons i r ih =>
    intro h
    simp only [nodupB, Bool.and_eq_true, Bool.not_eq_true', List.any_eq_false] at h
    refine List.nodup_cons.2 ⟨fun hm => ?_, ih h.2⟩
    have := h.1 i hm
    simp at this

def over (blks : List (Nat × Blk)) (H : Heap) : Heap := fun i => match blks.find? (fun p => p.1 == i) with
  | some p => some p.2
  | none => H i

theorem blkS_mem {H : Heap} : ∀ {l : List (Nat × Blk)} {S}, blkS H l = some S → allS S → ∀ p ∈ l, ∃ b, H p.1 = some b ∧ sameB b p.2 := by
  intro l; induction l with
  | nil => intro S _ _ p hp; cases hp
  | cons x r ih =>
    obtain ⟨i, b⟩ := x
    intro S h hS p hp
    simp only [blkS] at h
    split at h
    · rename_i b' S' hb' hr
      split at h
      · rename_i hsz
        cases h
        cases hp with
        | head => exact ⟨b', hb', Nat.eq_of_beq_eq_true hsz, hS.1⟩
        | tail _ hp => exact ih hr hS.2 p hp
      · cases h
    · cases h
theorem over_core {blks : List (Nat × Blk)} {H : Heap} {S} (hb : blkS H blks = some S) (hS : allS S) (i : Nat) : sameO (H i) (over blks H i) := by
  unfold over
  split
  · rename_i p hp
    have h1 := List.mem_of_find?_eq_some hp
    have h2 : p.1 = i := by simpa using List.find?_some hp
    obtain ⟨b, h3, h4⟩ := blkS_mem hb hS p h1
    rw [← h2, h3]; exact h4
  · exact sameO.refl _
theorem over_at {blks : List (Nat × Blk)} {H : Heap} (hn : (blks.map (·.1)).Nodup) : ∀ p ∈ blks, over blks H p.1 = some p.2 := by
  intro p hp
  unfold over
  have : blks.find? (fun q => q.1 == p.1) = some p := by
    induction blks with
    | nil => cases hp
    | cons x r ih =>
      simp only [List.map_cons, List.nodup_cons] at hn
      by_cases e : x.1 = p.1
      · have : x = p := by
          cases hp with
          | head => rfl
          | tail _ hp => exact absurd (List.mem_map.2 ⟨p, hp, e.symm⟩) hn.1
        subst this; simp
      · rw [List.find?_cons_of_neg (by simpa using e)]
        refine ih hn.2 ?_
        cases hp with
        | head => exact absurd rfl e
        | tail _ hp => exact hp
  rw [this]

theorem applyW_core : ∀ (wr : List (Nat × Option Blk)) {A B : Heap}, (∀ i, sameO (A i) (B i)) → ∀ i, sameO (applyW wr A i) (applyW wr B i) := by
  intro wr; induction wr with
  | nil => intro A B h i; exact h i
  | cons p r ih =>
    intro A B h i
    refine ih (A := upd A p.1 p.2) (B := upd B p.1 p.2) (fun j => ?_) i
    unfold upd; split
    · exact sameO.refl _
    · exact h j

theorem sameO.symm : ∀ {a b : Option Blk}, sameO a b → sameO b a
  | some _, some _, h => sameB.symm h
  | none, none, _ => trivial
  | some _, none, h => h.elim
  | none, some _, h => h.elim

theorem freshOf_ok (blks : List (Nat × Blk)) : ∀ (wr : List (Nat × Option Blk)) (σ : Sig), (∀ i ∈ freshOf blks wr, σ i = none) → ∀ p ∈ wr, p.1 ∈ blks.map (·.1) ∨ σ p.1 = none := by
  intro wr; induction wr with
  | nil => intro σ _ p hp; cases hp
  | cons x r ih =>
    intro σ h p hp
    obtain ⟨i, b⟩ := x
    unfold freshOf at h
    split at h
    · rename_i hany
      cases hp with
      | head =>
        obtain ⟨q, hq, he⟩ := List.any_eq_true.1 hany
        exact .inl (List.mem_map.2 ⟨q, hq, by simpa using he⟩)
      | tail _ hp => exact ih σ h p hp
    · cases hp with
      | head => exact .inr (h i (.head _))
      | tail _ hp => exact ih σ (fun j hj => h j (.tail _ hj)) p hp

section
variable {P : Program} {G : Glob} {ρ : Mem} {σ : Sig} {D : Nat → Prop} {H : Heap} {F : Fr} {w : World} {env : Nat → Option Ent} {n : Nat} {a : Act} {K : Act → World → Prop} {Q : Exit → Act → World → Prop}

theorem call_wp {o : Oper} {c : CallD P G} {S T} (h : callS P G env H o.op c = some (S, T)) (hS : allS S) (hT : allT T) (hG : GR G ρ) (hH : HInv ρ σ D H F w)
    (hx : ∀ x ∈ o.op.operands.toList, VR ρ σ (evO G env x) (a.eval x)) (hfr : ∀ i ∈ freshOf c.blks c.wr, σ i = none)
    (hK : ∀ x ρ' σ' w', leR F ρ ρ' → leS σ σ' → VR ρ' σ' c.v x → HInv ρ' σ' (fun j => D j ∨ j ∈ c.wr.map (·.1)) (applyW c.wr H) F w' → K (a.put o.dst x) w') : o.wp P a w K Q := by
  obtain ⟨dst, op, type, pos, after, guard⟩ := o
  dsimp only at h hx hK
  unfold callS at h
  split at h
  · rename_i f args ats
    split at h
    · rename_i KK first cap hf
      split at h
      · rename_i hk
        split at h
        case h_2 => cases h
        rename_i Sb hSb
        cases h
        simp only [Bool.and_eq_true] at hk
        have hkk : KK = c.K := Nat.eq_of_beq_eq_true hk.1
        subst hkk
        have hnd := nodupB_ok hk.2
        have hSe : c.args = first ++ (args.toList.map (evO G env) ++ cap) := hS.1
        have hf0 := hx f (by simp [Op.operands, Call.operands])
        rw [hf] at hf0
        have hargs := VRs_args (ρ := ρ) (σ := σ) (args := args) (ev := evO G env) (a := a) (fun x hxm => hx x (by simp [Op.operands, Call.operands, Array.mem_toList_iff.1 hxm]))
        generalize hfe : a.eval f = fv at hf0
        cases hf0
        rename_i F1 C1 h1 h2 h3 h4
        have hvs : VRs ρ σ c.args (F1 ++ args.map a.eval ++ C1) := by
          rw [hSe]
          refine ⟨by simp [h1, h3], fun i hi => ?_⟩
          have e := appV_getD
          have hsz : (args.toList.map (evO G env)).length = args.size := by simp
          rw [e, e, hsz]
          simp only [Array.size_append, Array.size_map] at hi
          by_cases c1 : i < first.length
          · rw [if_pos c1, Array.getElem_append_left (by simp; omega), Array.getElem_append_left (by omega)]
            exact h2 i (by omega)
          · rw [if_neg c1]
            by_cases c2 : i - first.length < args.size
            · rw [if_pos c2, Array.getElem_append_left (by simp; omega), Array.getElem_append_right (by omega)]
              have := hargs.2 (i - first.length) (by simpa using c2)
              simpa only [h1] using this
            · rw [if_neg c2, Array.getElem_append_right (by simp; omega)]
              have := h4 (i - first.length - args.size) (by omega)
              have e2 : i - (F1 ++ args.map a.eval).size = i - first.length - args.size := by simp [h1]; omega
              simp only [e2]; exact this
        have hover := over_core hSb hS.2
        have hcall := c.ok ρ σ D (over c.blks H) F w (F1 ++ args.map a.eval ++ C1) hG (over_at hnd) hvs (hH.congr hover) (freshOf_ok _ _ σ hfr)
        show Oper.upon P _ _ _ _ _
        have hrun : (execOp a.eval ⟨dst, .call ⟨.value f, args, ats⟩, type, pos, after, guard⟩).run P w = .ok (.enter c.K (F1 ++ args.map a.eval ++ C1)) w := by
          simp only [execOp, resolve, hfe, Deferred.ofValue, Sem.run_bind, Sem.run_pure, Result.andThen_ok, invoke]
          exact c.enter _ w
        rw [hrun]
        refine hcall.mono ?_
        rintro e w' ⟨val, ρ', σ', rfl, hv, hρ, hσ, hH'⟩
        refine hK val ρ' σ' w' hρ hσ hv (hH'.congr fun i => ?_)
        exact applyW_core _ (fun j => sameO.symm (hover j)) i
      · cases h
    · cases h
  · cases h

end

end Go.Proofs.YtiekchfipaiflaaGreatDoor
