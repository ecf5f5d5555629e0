/- One operation of a region: its abstract outcome, with guards, and that the model does the same. -/
import Derived.Test.YtiekchfipaiflaaGreatDoorLl
namespace Go.Proofs.YtiekchfipaiflaaGreatDoor
open Go

structure Core : Type 1 where
  α : Type
  size : Nat
  enc : α → List V
  d : α
  l : List α
def Blk.core (b : Blk) : Core := ⟨b.α, b.size, b.enc, b.d, b.l⟩
def coreO : Option Blk → Option Core
  | some b => some b.core
  | none => none

def BRc (ρ : Mem) (σ : Sig) (b : Core) (L : Loc) (w : World) : Prop :=
  L.es = b.size ∧ 0 < b.size ∧ ((L.cap = 0 ∧ b.l = []) ∨ ∃ c t fz, w.heap[L.r]? = some (.cells c t fz) ∧ c.size = L.cap ∧ b.l.length * b.size ≤ c.size ∧
    fzOK fz c.size ∧
    ∀ k, k < b.l.length → ∀ j, j < b.size → ∃ x, c[k * b.size + j]? = some x ∧ VR ρ σ ((b.enc (b.l.getD k b.d)).getD j .u) x)
theorem BR_core {ρ σ} {b b' : Blk} {L w} (h : b.core = b'.core) (hb : BR ρ σ b L w) : BR ρ σ b' L w := by
  have : BRc ρ σ b.core L w := hb
  rw [h] at this; exact this

/-- The cells of a block, element by element. -/
def cellsOf (b : Blk) : List V := b.l.map fun y => .agg (b.enc y)
def sameB (b b' : Blk) : Prop := b.size = b'.size ∧ cellsOf b = cellsOf b'
def sameO : Option Blk → Option Blk → Prop
  | some b, some b' => sameB b b'
  | none, none => True
  | _, _ => False
theorem sameO.refl : ∀ (o : Option Blk), sameO o o
  | some _ => ⟨rfl, rfl⟩
  | none => trivial
theorem sameB.symm {b b'} (h : sameB b b') : sameB b' b := ⟨h.1.symm, h.2.symm⟩
theorem cells_at {b b' : Blk} (h : cellsOf b = cellsOf b') : b.l.length = b'.l.length ∧ ∀ k, k < b.l.length → b.enc (b.l.getD k b.d) = b'.enc (b'.l.getD k b'.d) := by
  have hl : b.l.length = b'.l.length := by simpa [cellsOf] using congrArg List.length h
  refine ⟨hl, fun k hk => ?_⟩
  have hk' : k < b'.l.length := by omega
  have := congrArg (fun l => l[k]?) h
  simp only [cellsOf, List.getElem?_map, List.getElem?_eq_getElem hk, List.getElem?_eq_getElem hk', Option.map_some, Option.some.injEq] at this
  injection this with this
  simp only [List.getD_eq_getElem?_getD, List.getElem?_eq_getElem hk, List.getElem?_eq_getElem hk', Option.getD_some]
  exact this
theorem BR_same {ρ σ} {b b' : Blk} {L w} (h : sameB b b') (hb : BR ρ σ b L w) : BR ρ σ b' L w := by
  obtain ⟨hs, hc⟩ := h
  obtain ⟨hl, he⟩ := cells_at hc
  obtain ⟨h1, h2, h3⟩ := hb
  refine ⟨by rw [h1, hs], by rw [← hs]; exact h2, ?_⟩
  rcases h3 with ⟨h3, h4⟩ | ⟨c, t, fz, h4, h5, h6, h7, h8⟩
  · refine .inl ⟨h3, List.eq_nil_of_length_eq_zero ?_⟩
    rw [← hl, h4]; rfl
  · refine .inr ⟨c, t, fz, h4, h5, by rw [← hl, ← hs]; exact h6, h7, fun k hk j hj => ?_⟩
    rw [← hl] at hk
    rw [← hs] at hj ⊢
    rw [← he k hk]
    exact h8 k hk j hj

theorem HInv.congr {ρ σ D H H' F w} (h : HInv ρ σ D H F w) (hc : ∀ i, sameO (H i) (H' i)) : HInv ρ σ D H' F w := by
  have key : ∀ {i b}, H' i = some b → ∃ b', H i = some b' ∧ sameB b' b := by
    intro i b hi
    have := hc i
    rw [hi] at this
    cases hh : H i with
    | none => rw [hh] at this; exact this.elim
    | some b' => rw [hh] at this; exact ⟨b', rfl, this⟩
  refine ⟨h.dom, ?_, ?_, h.frame, h.rmem, ?_, h.io⟩
  · intro i b hi
    obtain ⟨b', hb', he⟩ := key hi
    obtain ⟨L, hL, hB⟩ := h.blk i b' hb'
    exact ⟨L, hL, BR_same he hB⟩
  · intro i j b c L M hi hj
    obtain ⟨b', hb', _⟩ := key hi
    obtain ⟨c', hc', _⟩ := key hj
    exact h.inj i j b' c' L M hb' hc'
  · intro i b L hi
    obtain ⟨b', hb', _⟩ := key hi
    exact h.apart i b' L hb'

/-! Slots. -/

structure Ent : Type 1 where
  g : Option Bool
  v : V
abbrev Env := List (Nat × Ent)
def look : Env → Nat → Option Ent
  | [], _ => none
  | (s, e) :: r, t => match Nat.beq s t with
    | true => some e
    | false => look r t

def entR (ρ : Mem) (σ : Sig) (e : Ent) (x : Value) : Prop :=
  match e.g with
  | none => VR ρ σ e.v x
  | some b => (b = true → VR ρ σ e.v x) ∧ (b = false → x = undef)

def EnvR (ρ : Mem) (σ : Sig) (env : Nat → Option Ent) (n : Nat) (tmps : Array Value) : Prop :=
  tmps.size = n ∧ ∀ t e, env t = some e → t < n ∧ entR ρ σ e (tmps.getD t undef)

theorem entR.mono {ρ ρ' σ σ' e x} (h : entR ρ σ e x) (hρ : leM ρ ρ') (hσ : leS σ σ') : entR ρ' σ' e x := by
  unfold entR at *
  cases hg : e.g with
  | none => rw [hg] at h; exact h.mono hρ hσ
  | some b => rw [hg] at h; exact ⟨fun hb => (h.1 hb).mono hρ hσ, h.2⟩
theorem EnvR.mono {ρ ρ' σ σ' env n tmps} (h : EnvR ρ σ env n tmps) (hρ : leM ρ ρ') (hσ : leS σ σ') : EnvR ρ' σ' env n tmps :=
  ⟨h.1, fun t e he => ⟨(h.2 t e he).1, (h.2 t e he).2.mono hρ hσ⟩⟩

abbrev Glob := Nat → Option V
def GR (G : Glob) (ρ : Mem) : Prop := ∀ g v, G g = some v → VR ρ noSig v (.pointer (some ⟨g, 0, none⟩))
theorem GR.mono {G ρ ρ'} (h : GR G ρ) (hρ : leM ρ ρ') : GR G ρ' := fun g v hv => (h g v hv).mono hρ (leS.refl _)

def evO (G : Glob) (env : Nat → Option Ent) : Operand → V
  | .tmp t => match env t with
    | some e => e.v
    | none => .u
  | .const c => toV c
  | .global g => match G g with
    | some v => v
    | none => .u
  | .func f => .fn (.func f) [] []
def gO (env : Nat → Option Ent) : Operand → Option Bool
  | .tmp t => match env t with
    | some e => e.g
    | none => none
  | _ => none

/-- What a condition is worth under another one. -/
def under (og : Option Bool) (c : Prop) : Prop :=
  match og with
  | none => c
  | some b => b = true → c
def guardC (og : Option Bool) (env : Nat → Option Ent) : List Operand → List Prop
  | [] => []
  | x :: r => match gO env x with
    | none => guardC og env r
    | some e => under og (e = true) :: guardC og env r

theorem evO_ok {G ρ σ env n a x} (hG : GR G ρ) (hE : EnvR ρ σ env n a.tmps) (hg : ∀ e, gO env x = some e → e = true) : VR ρ σ (evO G env x) (Act.eval a x) := by
  cases x with
  | tmp t =>
    simp only [evO, Act.eval]
    cases he : env t with
    | none => exact .u
    | some e =>
      have h := (hE.2 t e he).2
      unfold entR at h
      cases hgg : e.g with
      | none => rw [hgg] at h; exact h
      | some b =>
        rw [hgg] at h
        have := hg b (by simp only [gO, he]; exact hgg)
        exact h.1 this
  | const c => exact toV_ok c
  | «global» g =>
    simp only [evO, Act.eval]
    cases hv : G g with
    | none => exact .u
    | some v => exact (hG g v hv).of_no
  | func f =>
    simp only [evO, Act.eval]
    exact .fn rfl (fun i hi => by simp at hi) rfl (fun i hi => by simp at hi)

theorem guardC_ok {og env} : ∀ {xs : List Operand}, allP (guardC og env xs) → (∀ b, og = some b → b = true) → ∀ x ∈ xs, ∀ e, gO env x = some e → e = true := by
  intro xs
  induction xs with
  | nil => intro _ _ x hx; cases hx
  | cons y r ih =>
    intro h ho x hx e he
    unfold guardC at h
    cases hx with
    | head =>
      rw [he] at h
      have h1 := h.1
      unfold under at h1
      cases og with
      | none => exact h1
      | some b => exact h1 (ho b rfl)
    | tail _ hx =>
      split at h
      · exact ih h ho x hx e he
      · exact ih h.2 ho x hx e he

/-! Calls. -/

def allT : List (Option Core × Option Core) → Prop
  | [] => True
  | p :: r => p.1 = p.2 ∧ allT r

def VRs (ρ : Mem) (σ : Sig) (l : List V) (cs : Array Value) : Prop := l.length = cs.size ∧ ∀ i (hi : i < cs.size), VR ρ σ (l.getD i .u) cs[i]

/-- Read-only memory grows, never by what must stay. -/
structure leR (F : Fr) (ρ ρ' : Mem) : Prop where
  m : leM ρ ρ'
  f : ∀ r, ρ' r ≠ none → ρ r ≠ none ∨ F r = none
theorem leR.refl (F : Fr) (ρ : Mem) : leR F ρ ρ := ⟨leM.refl ρ, fun _ h => .inl h⟩
theorem leR.trans {F : Fr} {a b c : Mem} (h : leR F a b) (h' : leR F b c) : leR F a c := ⟨h.m.trans h'.m, fun r hr => by
  rcases h'.f r hr with h1 | h1
  · exact h.f r h1
  · exact .inr h1⟩

def CallOK (P : Program) (G : Glob) (K : FuncId) (args : List V) (blks : List (Nat × Blk)) (v : V) (wr : List (Nat × Option Blk)) : Prop :=
  ∀ ρ σ D H F w vals, GR G ρ → (∀ p ∈ blks, H p.1 = some p.2) → VRs ρ σ args vals → HInv ρ σ D H F w → (∀ p ∈ wr, p.1 ∈ blks.map (·.1) ∨ σ p.1 = none) →
    Calls P K vals w fun e w' => ∃ val ρ' σ', e = .returned val ∧ VR ρ' σ' v val ∧ leR F ρ ρ' ∧ leS σ σ' ∧ HInv ρ' σ' (fun j => D j ∨ j ∈ wr.map (·.1)) (applyW wr H) F w'

end Go.Proofs.YtiekchfipaiflaaGreatDoor
