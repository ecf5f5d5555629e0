/- What a step looks at: slots and blocks; steps that look at the same come to the same. -/
import Derived.Test.YtiekchfipaiflaaGreatDoorLr
namespace Go.Proofs.YtiekchfipaiflaaGreatDoor
open Go

/-- The blocks that a value names. -/
def idsV : V → List Nat
  | .p id _ _ => [id]
  | .sl id _ _ => [id]
  | _ => []

section
variable {P : Program} {H H' : Nat → Option Blk}

theorem loadO_congr {t x} (h : ∀ i ∈ idsV x, H i = H' i) : loadO P t x H = loadO P t x H' := by
  cases x <;> simp only [loadO]
  rename_i id idx sub
  rw [h id (by simp [idsV])]
theorem storeO_congr {t x v} (h : ∀ i ∈ idsV x, H i = H' i) : storeO P t x v H = storeO P t x v H' := by
  cases x <;> simp only [storeO]
  rename_i id idx sub
  rw [h id (by simp [idsV])]
theorem sliceA_congr {t x lo hi} (h : ∀ i ∈ idsV x, H i = H' i) : sliceA P t x lo hi H = sliceA P t x lo hi H' := by
  unfold sliceA
  cases x with
  | sl id off n => cases P.underlying t with
    | none => rfl
    | some d => cases d <;> first | rfl | (simp only; rw [h id (by simp [idsV])])
  | _ => cases P.underlying t with
    | none => rfl
    | some d => cases d <;> rfl

theorem markO_congr {s d x} (h : ∀ i ∈ idsV x, H i = H' i) : markO P s d x H = markO P s d x H' := by
  unfold markO
  split
  · rename_i e0 e id off n hs hd
    rw [h id (by simp [idsV])]
  · rfl

theorem slice3_congr {t x lo hi mx} (h : ∀ i ∈ idsV x, H i = H' i) : slice3 P t x lo hi mx H = slice3 P t x lo hi mx H' := by
  unfold slice3
  split
  · rename_i e id off len _ a _ b _ c hu
    rw [h id (by simp [idsV])]
  · rfl
  · rfl

theorem idxA_congr {t x ix} (h : ∀ i ∈ idsV x, H i = H' i) : idxA P t x ix H = idxA P t x ix H' := by
  unfold idxA
  cases ix <;> try rfl
  cases x with
  | sl id off n => cases P.underlying t with
    | none => rfl
    | some d => cases d <;> first | rfl | (simp only; rw [h id (by simp [idsV])])
  | _ => cases P.underlying t with
    | none => rfl
    | some d => cases d <;> rfl

theorem elemsOf_congr {x} (h : ∀ i ∈ idsV x, H i = H' i) : elemsOf x H = elemsOf x H' := by
  cases x <;> simp only [elemsOf]
  rename_i id off n
  rw [h id (by simp [idsV])]
theorem toStrO_congr {s d x} (h : ∀ i ∈ idsV x, H i = H' i) : toStrO P s d x H = toStrO P s d x H' := by
  unfold toStrO elemsS
  rw [elemsOf_congr h]
theorem appendO_congr {t x y fid} (h : ∀ i ∈ idsV x, H i = H' i) (h' : ∀ i ∈ idsV y, H i = H' i) : appendO P t x y H fid = appendO P t x y H' fid := by
  unfold appendO
  cases x with
  | sl id off n => cases P.underlying t with
    | none => rfl
    | some d => cases d <;> first | rfl | (simp only; rw [h id (by simp [idsV]), elemsOf_congr h'])
  | _ => cases P.underlying t with
    | none => rfl
    | some d => cases d <;> rfl

theorem copyO_congr {t x y} (h : ∀ i ∈ idsV x, H i = H' i) (h' : ∀ i ∈ idsV y, H i = H' i) : copyO P t x y H = copyO P t x y H' := by
  unfold copyO
  cases x with
  | sl id off n => cases P.underlying t with
    | none => rfl
    | some d => cases d <;> first | rfl | (simp only; rw [h id (by simp [idsV]), elemsOf_congr h'])
  | _ => cases P.underlying t with
    | none => rfl
    | some d => cases d <;> rfl

theorem clearO_congr {t x} (h : ∀ i ∈ idsV x, H i = H' i) : clearO P t x H = clearO P t x H' := by
  unfold clearO
  cases x with
  | sl id off n => cases P.underlying t with
    | none => rfl
    | some d => cases d <;> first | rfl | (simp only; rw [h id (by simp [idsV])])
  | _ => cases P.underlying t with
    | none => rfl
    | some d => cases d <;> rfl

theorem bltO_congr {b ats an} {args : List V} (h : ∀ x ∈ args, ∀ i ∈ idsV x, H i = H' i) : bltO P b ats args H an = bltO P b ats args H' an := by
  unfold bltO
  split
  · rfl
  · rfl
  · rfl
  · rename_i t tx ts x y
    have hx := h x (by simp)
    have hy := h y (by simp)
    cases P.underlying tx with
    | none => rfl
    | some d =>
      simp only
      cases isIntD d with
      | true => rfl
      | false =>
        simp only [Bool.false_eq_true, if_false]
        cases an with
        | auto => rfl
        | fresh id b => exact appendO_congr hx hy
        | fresh2 id0 id b =>
          simp only
          split
          · refine appendO_congr ?_ ?_
            · intro i hi
              have : i = id0 := by simpa [idsV] using hi
              subst this; rw [upd_same, upd_same]
            · intro i hi
              unfold upd
              split
              · rfl
              · exact hy i hi
          · rfl
  · rename_i t ts x y
    exact copyO_congr (h x (by simp)) (h y (by simp))
  · rename_i t ts x
    exact clearO_congr (h x (by simp))
  · rfl

theorem optV_congr {ev ev' : Operand → V} {o : Option Operand} (h : ∀ x, o = some x → ev x = ev' x) : optV ev o = optV ev' o := by
  cases o with
  | none => rfl
  | some x => simp only [optV]; rw [h x rfl]
theorem evParts_congr {ev ev' : Operand → V} : ∀ {l : List (Nat × Operand)}, (∀ p ∈ l, ev p.2 = ev' p.2) → evParts ev l = evParts ev' l := by
  intro l; induction l with
  | nil => intro _; rfl
  | cons p r ih =>
    obtain ⟨i, x⟩ := p
    intro h
    simp only [evParts]
    rw [h (i, x) (.head _), ih fun q hq => h q (.tail _ hq)]

/-- The operands behind which an operation looks into memory. -/
def seesH : Op → List Operand
  | .move _ | .assign _ | .nilCheck _ | .fieldAddr .. | .field .. | .extract .. | .unOp .. | .binOp .. | .build .. | .makeFunc .. | .makeInterface .. | .box .. | .pick .. | .buildSlice .. | .makeSlice .. | .index .. | .alloc _ => []
  | .store _ a _ => [a]
  | .load _ a => [a]
  | .call ⟨.value _, _, _⟩ => []
  | o => o.operands.toList

theorem opO_congr {o : Op} {ev ev' : Operand → V} {an} (he : ∀ x ∈ o.operands.toList, ev x = ev' x) (h : ∀ x ∈ seesH o, ∀ i ∈ idsV (ev x), H i = H' i) :
    opO P o ev H an = opO P o ev' H' an := by
  cases o <;> simp only [opO] <;> try rfl
  case move x => rw [he x (by simp [Op.operands])]
  case assign x => rw [he x (by simp [Op.operands])]
  case nilCheck x => rw [he x (by simp [Op.operands])]
  case binOp op t x y yt => rw [he x (by simp [Op.operands]), he y (by simp [Op.operands])]
  case unOp op t x => rw [he x (by simp [Op.operands])]
  case convert s d x =>
    rw [he x (by simp [Op.operands])]
    have := h x (by simp [seesH, Op.operands])
    rw [he x (by simp [Op.operands])] at this
    rw [toStrO_congr this, markO_congr this]
  case slice t x lo hi mx =>
    cases mx with
    | none =>
      simp only [opO]
      rw [he x (by simp [Op.operands]), optV_congr (o := lo) (fun y hy => he y (by simp [Op.operands, hy])), optV_congr (o := hi) (fun y hy => he y (by simp [Op.operands, hy]))]
      have := h x (by simp [seesH, Op.operands])
      rw [he x (by simp [Op.operands])] at this
      rw [sliceA_congr this]
    | some m =>
      simp only [opO]
      rw [he x (by simp [Op.operands]), he m (by simp [Op.operands]), optV_congr (o := lo) (fun y hy => he y (by simp [Op.operands, hy])), optV_congr (o := hi) (fun y hy => he y (by simp [Op.operands, hy]))]
      have := h x (by simp [seesH, Op.operands])
      rw [he x (by simp [Op.operands])] at this
      rw [slice3_congr this]
  case fieldAddr t x f => rw [he x (by simp [Op.operands])]
  case field t x f => rw [he x (by simp [Op.operands])]
  case indexAddr t x ix =>
    have := h x (by simp [seesH, Op.operands])
    rw [he x (by simp [Op.operands])] at this
    rw [he x (by simp [Op.operands]), he ix (by simp [Op.operands]), idxA_congr this]
  case index t x ix => rw [he x (by simp [Op.operands]), he ix (by simp [Op.operands])]
  case extract x i => rw [he x (by simp [Op.operands])]
  case build t ps => rw [evParts_congr fun p hp => he p.2 (by simp only [Op.operands, List.mem_map]; exact ⟨p, hp, rfl⟩)]
  case buildSlice t n ps => rw [evParts_congr fun p hp => he p.2 (by simp only [Op.operands, List.mem_map]; exact ⟨p, hp, rfl⟩)]
  case makeFunc fn f c =>
    rw [List.map_congr_left (g := ev') fun x hx => he x (by simp [Op.operands, Array.mem_toList_iff.1 hx]), List.map_congr_left (l := c.toList) (g := ev') fun x hx => he x (by simp [Op.operands, Array.mem_toList_iff.1 hx])]
  case makeInterface t x => rw [he x (by simp [Op.operands])]
  case load t x =>
    have := h x (by simp [seesH, Op.operands])
    rw [he x (by simp [Op.operands])] at this
    rw [he x (by simp [Op.operands]), loadO_congr this]
  case store t x y =>
    have := h x (by simp [seesH, Op.operands])
    rw [he x (by simp [Op.operands])] at this
    rw [he x (by simp [Op.operands]), he y (by simp [Op.operands]), storeO_congr this]
  case box t x => rw [he x (by simp [Op.operands])]
  case makeSlice t l c => rw [he l (by simp [Op.operands]), he c (by simp [Op.operands])]
  case call c =>
    obtain ⟨callee, args, ats⟩ := c
    cases callee <;> simp only [opO]
    rename_i b
    have e1 : args.toList.map ev = args.toList.map ev' := List.map_congr_left fun x hx => he x (by simp [Op.operands, Call.operands, Array.mem_toList_iff.1 hx])
    rw [← e1]
    refine bltO_congr fun x hx i hi => ?_
    obtain ⟨y, hy, rfl⟩ := List.mem_map.1 hx
    exact h y (by simp [seesH, Op.operands, Call.operands, Array.mem_toList_iff.1 hy]) i hi

end

/-- The slots that an operation names: those that it reads, and its guard's. -/
def tmpsOf : List Operand → List Nat
  | [] => []
  | .tmp t :: r => t :: tmpsOf r
  | _ :: r => tmpsOf r
theorem tmpsOf_mem : ∀ {l : List Operand} {t : Nat}, Operand.tmp t ∈ l → t ∈ tmpsOf l := by
  intro l; induction l with
  | nil => intro t h; cases h
  | cons x r ih =>
    intro t h
    cases h with
    | head => simp [tmpsOf]
    | tail _ h => cases x <;> simp [tmpsOf, ih h]
def namesOf (ops : List Oper) (o : Oper) : List Nat :=
  (match o.guard with
   | some (j, _) => (match dstOf ops j with | some d => [d] | none => [])
   | none => []) ++ tmpsOf o.op.operands.toList
def flatIds (ev : Operand → V) : List Operand → List Nat
  | [] => []
  | x :: r => idsV (ev x) ++ flatIds ev r
theorem flatIds_mem {ev : Operand → V} : ∀ {l : List Operand} {x i}, x ∈ l → i ∈ idsV (ev x) → i ∈ flatIds ev l := by
  intro l; induction l with
  | nil => intro x i h; cases h
  | cons y r ih =>
    intro x i h hi
    cases h with
    | head => simp [flatIds, hi]
    | tail _ h => simp [flatIds, ih h hi]
def fpOf {P : Program} {G : Glob} (o : Oper) (an : RAnn P G) (env : Nat → Option Ent) : List Nat :=
  (match an with
   | .call c => c.blks.map (·.1)
   | .frz _ id => [id]
   | .re id _ _ _ => [id]
   | _ => []) ++ flatIds (evO G env) (seesH o.op)

theorem evO_congr {G : Glob} {env env' : Nat → Option Ent} {l : List Operand} (h : ∀ t ∈ tmpsOf l, env t = env' t) : ∀ x ∈ l, evO G env x = evO G env' x ∧ gO env x = gO env' x := by
  intro x hx
  cases x with
  | tmp t => simp only [evO, gO]; rw [h t (tmpsOf_mem hx)]; exact ⟨rfl, rfl⟩
  | _ => exact ⟨rfl, rfl⟩
theorem guardC_congr {og} {env env' : Nat → Option Ent} : ∀ {l : List Operand}, (∀ x ∈ l, gO env x = gO env' x) → guardC og env l = guardC og env' l := by
  intro l; induction l with
  | nil => intro _; rfl
  | cons x r ih =>
    intro h
    simp only [guardC]
    rw [h x (.head _), ih fun y hy => h y (.tail _ hy)]
theorem gd_congr {ops : List Oper} {g} {env env' : Nat → Option Ent} (h : ∀ j b, g = some (j, b) → ∀ d, dstOf ops j = some d → env d = env' d) : gd ops env g = gd ops env' g := by
  unfold gd
  cases g with
  | none => rfl
  | some jb =>
    obtain ⟨j, b⟩ := jb
    simp only
    cases hd : dstOf ops j with
    | none => rfl
    | some d => simp only; rw [h j b rfl d hd]

theorem blkS_congr {H H' : Heap} : ∀ {l : List (Nat × Blk)}, (∀ i ∈ l.map (·.1), H i = H' i) → blkS H l = blkS H' l := by
  intro l; induction l with
  | nil => intro _; rfl
  | cons x r ih =>
    obtain ⟨i, b⟩ := x
    intro h
    simp only [blkS]
    rw [h i (by simp), ih fun j hj => h j (by simp only [List.map_cons, List.mem_cons]; exact .inr hj)]

theorem callS_congr {P : Program} {G : Glob} {env env' : Nat → Option Ent} {H H' : Heap} {op : Op} {c : CallD P G} (he : ∀ x ∈ op.operands.toList, evO G env x = evO G env' x) (hH : ∀ i ∈ c.blks.map (·.1), H i = H' i) :
    callS P G env H op c = callS P G env' H' op c := by
  cases op <;> simp only [callS]
  rename_i cl
  obtain ⟨callee, args, ats⟩ := cl
  cases callee <;> simp only [callS]
  rename_i f
  have e1 : args.toList.map (evO G env) = args.toList.map (evO G env') := List.map_congr_left fun x hx => he x (by simp [Op.operands, Call.operands, Array.mem_toList_iff.1 hx])
  have e2 : blkS H c.blks = blkS H' c.blks := blkS_congr hH
  rw [he f (by simp [Op.operands, Call.operands]), e1, e2]

theorem stepR_congr {P : Program} {G : Glob} {ops : List Oper} {o : Oper} {an : RAnn P G} {env env' : Nat → Option Ent} {H H' : Heap}
    (he : ∀ t ∈ namesOf ops o, env t = env' t) (hH : ∀ i ∈ fpOf o an env, H i = H' i) : stepR ops o an env H = stepR ops o an env' H' := by
  have hg : gd ops env o.guard = gd ops env' o.guard := gd_congr fun j b hj d hd => he d (by simp [namesOf, hj, hd])
  have hops := evO_congr (G := G) (env := env) (env' := env') (l := o.op.operands.toList) (fun t ht => he t (by simp only [namesOf, List.mem_append]; exact .inr ht))
  have hev : ∀ x ∈ o.op.operands.toList, evO G env x = evO G env' x := fun x hx => (hops x hx).1
  have hgo : ∀ x ∈ o.op.operands.toList, gO env x = gO env' x := fun x hx => (hops x hx).2
  have hgc : ∀ og, guardC og env o.op.operands.toList = guardC og env' o.op.operands.toList := fun og => guardC_congr hgo
  have hop : ∀ a, opO P o.op (evO G env) H a = opO P o.op (evO G env') H' a := fun a => opO_congr hev fun x hx i hi => hH i (by simp only [fpOf, List.mem_append]; exact .inr (flatIds_mem hx hi))
  unfold stepR
  rw [hg]
  cases gd ops env' o.guard with
  | none => rfl
  | some og =>
    simp only
    cases an with
    | skip => rfl
    | must a => simp only; rw [hop, hgc]
    | known a d => simp only; rw [hop, hgc]
    | op a =>
      simp only
      obtain ⟨dst, op, type, pos, after, guard⟩ := o
      dsimp only at hev hgo hgc hop ⊢
      cases op
      case pick c x y =>
        simp only
        rw [hev c (by simp [Op.operands]), hev x (by simp [Op.operands]), hev y (by simp [Op.operands]), hgo x (by simp [Op.operands]), hgo y (by simp [Op.operands])]
        rw [guardC_congr (l := [c]) fun z hz => by
          have : z = c := by simpa using hz
          subst this; exact hgo z (by simp [Op.operands])]
      all_goals (simp only; rw [hop]; simp only [hgc])
    | weak a v => simp only; rw [hop, hgc]
    | ix q =>
      simp only
      obtain ⟨dst, op, type, pos, after, guard⟩ := o
      dsimp only at hev hgo hgc hop ⊢
      cases op
      case indexAddr t x i =>
        simp only
        rw [hev x (by simp [Op.operands]), hev i (by simp [Op.operands]), hgc]
        split
        · rw [idxA_congr (H := H) (H' := H') fun j hj => hH j (by simp only [fpOf, List.mem_append]; exact .inr (flatIds_mem (x := x) (by simp [seesH, Op.operands]) (by rw [hev x (by simp [Op.operands])]; exact hj)))]
        · rfl
      all_goals rfl
    | re id b wk a =>
      have hop2 : opO P o.op (evO G env) (upd H id (some b)) a = opO P o.op (evO G env') (upd H' id (some b)) a := opO_congr hev fun x hx i hi => by
        unfold upd
        split
        · rfl
        · exact hH i (by simp only [fpOf, List.mem_append]; exact .inr (flatIds_mem hx hi))
      simp only
      rw [hop2, hgc, hH id (by simp [fpOf])]
    | frz a id => simp only; rw [hop, hgc, hH id (by simp [fpOf])]
    | pk d =>
      simp only
      obtain ⟨dst, op, type, pos, after, guard⟩ := o
      dsimp only at hev hgo hgc hop ⊢
      cases op
      case pick c x y =>
        have one : ∀ z, z ∈ (Op.pick c x y).operands.toList → guardC none env [z] = guardC none env' [z] := fun z hz => guardC_congr fun z' hz' => by
          have : z' = z := by simpa using hz'
          subst this; exact hgo z' hz
        simp only
        rw [hev c (by simp [Op.operands]), hev x (by simp [Op.operands]), hev y (by simp [Op.operands]), one c (by simp [Op.operands]), one x (by simp [Op.operands]), one y (by simp [Op.operands])]
      all_goals rfl
    | call c =>
      simp only
      rw [callS_congr hev fun i hi => hH i (by simp only [fpOf, List.mem_append]; exact .inl hi), hgc]

end Go.Proofs.YtiekchfipaiflaaGreatDoor
