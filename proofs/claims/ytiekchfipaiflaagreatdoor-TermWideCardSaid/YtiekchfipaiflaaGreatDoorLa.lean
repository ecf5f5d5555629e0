/- An abstract memory for Go programs: values with static block numbers, typed blocks, and what it means that a world bears them. -/
import Derived.Calls
import Derived.Orders
import Derived.Eval
import Derived.KernelRfl
import Derived.Laws.Sem
namespace Go.Proofs.YtiekchfipaiflaaGreatDoor
open Go

/-- A value, its blocks named by static numbers. -/
inductive V : Type 1
  | u
  | b (x : Bool)
  | i (k : IntKind) (n : Int)
  | s (x : List Int)
  | nilp
  | p (id idx sub : Nat)
  | rp (α : Type) (size : Nat) (enc : α → List V) (d : α) (l : List α) (idx sub : Nat)
  | nils
  | sl (id off len : Nat)
  | ro (α : Type) (size : Nat) (enc : α → List V) (d : α) (l : List α)
  | fn (f : Fn) (first cap : List V)
  | nilfn
  | niliface
  | iface (t : TypeId) (v : V)
  | agg (l : List V)
  | tup (l : List V)
  | fl (k : FloatKind) (bits : Nat)
  | val (x : Value)

structure Loc where
  r : Nat
  cap : Nat
  es : Nat

abbrev Sig := Nat → Option Loc
abbrev Mem := Nat → Option Obj

def rd (ρ : Mem) (a : Option Addr) (n : Nat) : Option Value :=
  match a with
  | some ⟨r, off, none⟩ => match ρ r with
    | some (.cells c _ _) => c[off + n]?
    | _ => none
  | _ => none

def okInt (k : IntKind) (n : Int) : Prop := k = .i64 ∨ k.has n

def noSig : Sig := fun _ => none

inductive VR (ρ : Mem) : Sig → V → Value → Prop
  | u {σ x} : VR ρ σ .u x
  | b {σ x} : VR ρ σ (.b x) (.bool x)
  | i {σ k n} (h : okInt k n) : VR ρ σ (.i k n) (.int k n)
  | s {σ x s} (h : s.data.toList.map (fun c : UInt8 => (c.toNat : Int)) = x) : VR ρ σ (.s x) (.string s)
  | nilp {σ} : VR ρ σ .nilp (.pointer none)
  | p {σ id idx sub L} (h : σ id = some L) : VR ρ σ (.p id idx sub) (.pointer (some ⟨L.r, idx * L.es + sub, none⟩))
  | rp {σ α size enc d l idx sub r off} (g : Nat → Nat → Value)
      (hr : ∀ k, k < l.length → ∀ j, j < size → rd ρ (some ⟨r, off, none⟩) (k * size + j) = some (g k j))
      (hv : ∀ k, k < l.length → ∀ j, j < size → VR ρ noSig ((enc (l.getD k d)).getD j .u) (g k j)) :
      VR ρ σ (.rp α size enc d l idx sub) (.pointer (some ⟨r, off + (idx * size + sub), none⟩))
  | nils {σ a} : VR ρ σ .nils (.slice a 0 0)
  | sl {σ id off len L a cap} (h : σ id = some L) (hl : len ≤ cap)
      (hc : 0 < cap → a = some ⟨L.r, off * L.es, none⟩ ∧ (off + cap) * L.es ≤ L.cap) : VR ρ σ (.sl id off len) (.slice a len cap)
  | ro {σ α size enc d l a cap} (g : Nat → Nat → Value) (hl : l.length ≤ cap)
      (hr : ∀ k, k < l.length → ∀ j, j < size → rd ρ a (k * size + j) = some (g k j))
      (hv : ∀ k, k < l.length → ∀ j, j < size → VR ρ noSig ((enc (l.getD k d)).getD j .u) (g k j)) :
      VR ρ σ (.ro α size enc d l) (.slice a l.length cap)
  | fn {σ f first cap F C} (h1 : first.length = F.size) (h2 : ∀ i (hi : i < F.size), VR ρ σ (first.getD i .u) F[i])
      (h3 : cap.length = C.size) (h4 : ∀ i (hi : i < C.size), VR ρ σ (cap.getD i .u) C[i]) : VR ρ σ (.fn f first cap) (.func f F C)
  | nilfn {σ} : VR ρ σ .nilfn .nilFunc
  | niliface {σ} : VR ρ σ .niliface .nilIface
  | iface {σ t v x} (h : VR ρ σ v x) : VR ρ σ (.iface t v) (.iface t x)
  | agg {σ l cs} (hn : l.length = cs.size) (h : ∀ i (hi : i < cs.size), VR ρ σ (l.getD i .u) cs[i]) : VR ρ σ (.agg l) (.agg cs)
  | tup {σ l cs} (hn : l.length = cs.size) (h : ∀ i (hi : i < cs.size), VR ρ σ (l.getD i .u) cs[i]) : VR ρ σ (.tup l) (.tuple cs)
  | fl {σ k n} : VR ρ σ (.fl k n) (.float k n)
  | val {σ x} : VR ρ σ (.val x) x

def leM (ρ ρ' : Mem) : Prop := ∀ r o, ρ r = some o → ρ' r = some o
def leS (σ σ' : Sig) : Prop := ∀ i L, σ i = some L → σ' i = some L

theorem leM.refl (ρ : Mem) : leM ρ ρ := fun _ _ h => h
theorem leS.refl (σ : Sig) : leS σ σ := fun _ _ h => h
theorem leM.trans {a b c : Mem} (h : leM a b) (h' : leM b c) : leM a c := fun r o x => h' r o (h r o x)
theorem leS.trans {a b c : Sig} (h : leS a b) (h' : leS b c) : leS a c := fun r o x => h' r o (h r o x)

theorem rd_mono {ρ ρ' : Mem} (h : leM ρ ρ') {a n v} (hr : rd ρ a n = some v) : rd ρ' a n = some v := by
  unfold rd at *
  split at hr
  · rename_i r off
    cases ho : ρ r with
    | none => simp [ho] at hr
    | some o => simp only [h r o ho]; simpa only [ho] using hr
  · simp at hr

theorem VR.mono {ρ ρ' : Mem} {σ : Sig} {v x} (h : VR ρ σ v x) (hρ : leM ρ ρ') : ∀ {σ'}, leS σ σ' → VR ρ' σ' v x := by
  induction h with
  | u => intro σ' _; exact .u
  | b => intro σ' _; exact .b
  | i h => intro σ' _; exact .i h
  | s h => intro σ' _; exact .s h
  | nilp => intro σ' _; exact .nilp
  | p h => intro σ' hσ; exact .p (hσ _ _ h)
  | rp g hr _ ih => intro σ' _; exact .rp g (fun k hk j hj => rd_mono hρ (hr k hk j hj)) (fun k hk j hj => ih k hk j hj (leS.refl _))
  | nils => intro σ' _; exact .nils
  | sl h hl hc => intro σ' hσ; exact .sl (hσ _ _ h) hl hc
  | ro g hl hr _ ih => intro σ' _; exact .ro g hl (fun k hk j hj => rd_mono hρ (hr k hk j hj)) (fun k hk j hj => ih k hk j hj (leS.refl _))
  | fn h1 _ h3 _ ih2 ih4 => intro σ' hσ; exact .fn h1 (fun i hi => ih2 i hi hσ) h3 (fun i hi => ih4 i hi hσ)
  | nilfn => intro σ' _; exact .nilfn
  | niliface => intro σ' _; exact .niliface
  | iface _ ih => intro σ' hσ; exact .iface (ih hσ)
  | agg hn _ ih => intro σ' hσ; exact .agg hn (fun i hi => ih i hi hσ)
  | tup hn _ ih => intro σ' hσ; exact .tup hn (fun i hi => ih i hi hσ)
  | fl => intro σ' _; exact .fl
  | val => intro σ' _; exact .val

/-- A typed block: a list of elements, each of 'size' cells. -/
structure Blk : Type 1 where
  α : Type
  size : Nat
  enc : α → List V
  dec : List V → α
  d : α
  l : List α

/-- No cell of a block is frozen: the range is empty, or lies behind them. -/
def fzOK (fz : Nat × Nat) (n : Nat) : Prop := fz.1 = fz.2 ∨ n ≤ fz.1
theorem fzOK.out {fz : Nat × Nat} {n : Nat} (h : fzOK fz n) : ∀ k, k < n → ¬ (fz.1 ≤ k ∧ k < fz.2) := by
  intro k hk ⟨h1, h2⟩
  rcases h with h | h <;> omega

/-- What a world bears for a block at a place. -/
def BR (ρ : Mem) (σ : Sig) (b : Blk) (L : Loc) (w : World) : Prop :=
  L.es = b.size ∧ 0 < b.size ∧ ((L.cap = 0 ∧ b.l = []) ∨ ∃ c t fz, w.heap[L.r]? = some (.cells c t fz) ∧ c.size = L.cap ∧ b.l.length * b.size ≤ c.size ∧
    fzOK fz c.size ∧
    ∀ k, k < b.l.length → ∀ j, j < b.size → ∃ x, c[k * b.size + j]? = some x ∧ VR ρ σ ((b.enc (b.l.getD k b.d)).getD j .u) x)

abbrev Heap := Nat → Option Blk

/-- What must stay: objects, and what lies outside. -/
structure Fr where
  m : Mem
  os : Os
  out : Array (Nat × ByteArray)
instance : CoeFun Fr (fun _ => Nat → Option Obj) := ⟨Fr.m⟩
def sameIO (w w' : World) : Prop := w'.os = w.os ∧ w'.output = w.output
theorem sameIO.refl (w : World) : sameIO w w := ⟨rfl, rfl⟩
theorem sameIO.trans {a b c : World} (h : sameIO a b) (h' : sameIO b c) : sameIO a c := ⟨h'.1.trans h.1, h'.2.trans h.2⟩
theorem sameIO.io {F : Fr} {w w' : World} (h : sameIO w w') (hF : w.os = F.os ∧ w.output = F.out) : w'.os = F.os ∧ w'.output = F.out := ⟨h.1.trans hF.1, h.2.trans hF.2⟩

/-- The whole state of memory: the blocks that are owned, the read-only memory, the rest that stays. -/
structure HInv (ρ : Mem) (σ : Sig) (D : Nat → Prop) (H : Heap) (F : Fr) (w : World) : Prop where
  dom : ∀ i L, σ i = some L → D i
  blk : ∀ i b, H i = some b → ∃ L, σ i = some L ∧ BR ρ σ b L w
  inj : ∀ i j b c L M, H i = some b → H j = some c → σ i = some L → σ j = some M → i ≠ j → L.cap ≠ 0 → M.cap ≠ 0 → L.r ≠ M.r
  frame : ∀ r o, F r = some o → w.heap[r]? = some o
  rmem : ∀ r o, ρ r = some o → w.heap[r]? = some o
  apart : ∀ i b L, H i = some b → σ i = some L → L.cap ≠ 0 → F L.r = none ∧ ρ L.r = none
  io : w.os = F.os ∧ w.output = F.out

theorem BR.mono {ρ ρ' : Mem} {σ σ' : Sig} {b L w} (h : BR ρ σ b L w) (hρ : leM ρ ρ') (hσ : leS σ σ') : BR ρ' σ' b L w := by
  obtain ⟨h1, h2, h3⟩ := h
  refine ⟨h1, h2, h3.imp id ?_⟩
  rintro ⟨c, t, fz, h4, h5, h6, h7, h8⟩
  exact ⟨c, t, fz, h4, h5, h6, h7, fun k hk j hj => let ⟨x, hx, hv⟩ := h8 k hk j hj; ⟨x, hx, hv.mono hρ hσ⟩⟩

theorem BR.world {ρ : Mem} {σ : Sig} {b L w w'} (h : BR ρ σ b L w) (hw : L.cap ≠ 0 → w'.heap[L.r]? = w.heap[L.r]?) : BR ρ σ b L w' := by
  obtain ⟨h1, h2, h3⟩ := h
  refine ⟨h1, h2, ?_⟩
  by_cases hc : L.cap = 0
  · rcases h3 with h3 | ⟨c, t, fz, h4, h5, h6, _⟩
    · exact .inl h3
    · refine .inl ⟨hc, ?_⟩
      have : b.l.length * b.size = 0 := by omega
      rcases Nat.mul_eq_zero.1 this with h | h
      · exact List.eq_nil_of_length_eq_zero h
      · omega
  · rcases h3 with h3 | ⟨c, t, fz, h4, h5⟩
    · exact absurd h3.1 hc
    · exact .inr ⟨c, t, fz, by rw [hw hc]; exact h4, h5⟩

def upd (H : Heap) (i : Nat) (b : Option Blk) : Heap := fun j => if j = i then b else H j
theorem upd_same (H : Heap) (i b) : upd H i b i = b := by simp [upd]
theorem upd_ne (H : Heap) (i b) {j} (h : j ≠ i) : upd H i b j = H j := by simp [upd, h]
def updS (σ : Sig) (i : Nat) (L : Loc) : Sig := fun j => if j = i then some L else σ j
theorem leS_updS {σ : Sig} {i L} (h : σ i = none) : leS σ (updS σ i L) := by
  intro j M hj
  unfold updS
  by_cases e : j = i
  · subst e; rw [h] at hj; cases hj
  · simp [e, hj]

/-- A store into a block that is owned: whatever changed that block alone. -/
theorem HInv.write {ρ σ D H F w w'} (h : HInv ρ σ D H F w) {i b b' L} (hb : H i = some b) (hL : σ i = some L) (hc : L.cap ≠ 0)
    (hio : sameIO w w') (hw : ∀ r, r ≠ L.r → w'.heap[r]? = w.heap[r]?) (hb' : BR ρ σ b' L w') : HInv ρ σ D (upd H i (some b')) F w' := by
  refine ⟨h.dom, ?_, ?_, ?_, ?_, ?_, hio.io h.io⟩
  · intro j c hj
    by_cases e : j = i
    · subst e; rw [upd_same] at hj; cases hj; exact ⟨L, hL, hb'⟩
    · rw [upd_ne _ _ _ e] at hj
      obtain ⟨M, hM, hB⟩ := h.blk j c hj
      exact ⟨M, hM, hB.world fun hm => hw _ (h.inj j i c b M L hj hb hM hL e hm hc)⟩
  · intro j k c d M N hj hk hM hN hne hm hn
    have fix : ∀ j c, upd H i (some b') j = some c → ∃ c', H j = some c' := by
      intro j c hj
      by_cases e : j = i
      · subst e; exact ⟨b, hb⟩
      · rw [upd_ne _ _ _ e] at hj; exact ⟨c, hj⟩
    obtain ⟨c', hj'⟩ := fix j c hj
    obtain ⟨d', hk'⟩ := fix k d hk
    exact h.inj j k c' d' M N hj' hk' hM hN hne hm hn
  · intro r o hr
    rw [hw r (fun e => by have := (h.apart i b L hb hL hc).1; rw [← e] at this; rw [this] at hr; cases hr)]
    exact h.frame r o hr
  · intro r o hr
    rw [hw r (fun e => by have := (h.apart i b L hb hL hc).2; rw [← e] at this; rw [this] at hr; cases hr)]
    exact h.rmem r o hr
  · intro j c M hj hM hm
    by_cases e : j = i
    · subst e; exact h.apart j b M hb hM hm
    · rw [upd_ne _ _ _ e] at hj; exact h.apart j c M hj hM hm

/-- Nothing that is borne has changed. -/
theorem HInv.world {ρ σ D H F w w'} (h : HInv ρ σ D H F w) (hio : sameIO w w') (hw : ∀ r, r < w.heap.size → w'.heap[r]? = w.heap[r]?) : HInv ρ σ D H F w' := by
  have lt : ∀ {r o}, w.heap[r]? = some o → r < w.heap.size := by
    intro r o hr
    rcases Nat.lt_or_ge r w.heap.size with h | h
    · exact h
    · simp [Array.getElem?_eq_none h] at hr
  refine ⟨h.dom, ?_, h.inj, fun r o hr => ?_, fun r o hr => ?_, h.apart, hio.io h.io⟩
  · intro i b hb
    obtain ⟨L, hL, hB⟩ := h.blk i b hb
    refine ⟨L, hL, hB.world fun hc => ?_⟩
    obtain ⟨_, _, h3⟩ := hB
    rcases h3 with h3 | ⟨c, t, fz, h4, _⟩
    · exact absurd h3.1 hc
    · exact hw _ (lt h4)
  · rw [hw r (lt (h.frame r o hr))]; exact h.frame r o hr
  · rw [hw r (lt (h.rmem r o hr))]; exact h.rmem r o hr

theorem some_lt {w : World} {r : Nat} {o : Obj} (hr : w.heap[r]? = some o) : r < w.heap.size := by
  rcases Nat.lt_or_ge r w.heap.size with h | h
  · exact h
  · simp [Array.getElem?_eq_none h] at hr

/-- A new block, whatever else stays: the number i is free. -/
theorem HInv.fresh {ρ σ D H F w w'} (h : HInv ρ σ D H F w) {i b L} (hi : σ i = none) (hio : sameIO w w')
    (hw : ∀ r, r < w.heap.size → w'.heap[r]? = w.heap[r]?) (hr : L.cap ≠ 0 → w.heap.size ≤ L.r)
    (hb : BR ρ (updS σ i L) b L w') : HInv ρ (updS σ i L) (fun j => D j ∨ j = i) (upd H i (some b)) F w' := by
  have hw' := h.world hio hw
  have hne : ∀ j c, H j = some c → j ≠ i := by
    intro j c hj e
    subst e
    obtain ⟨M, hM, _⟩ := h.blk j c hj
    rw [hi] at hM; cases hM
  have old : ∀ {j M}, j ≠ i → updS σ i L j = some M → σ j = some M := by
    intro j M e hM; simpa [updS, e] using hM
  have new : ∀ {M}, updS σ i L i = some M → M = L := by
    intro M hM; simpa [updS, eq_comm] using hM
  have low : ∀ j c M, H j = some c → σ j = some M → M.cap ≠ 0 → M.r < w.heap.size := by
    intro j c M hj hM hm
    obtain ⟨M', hM', hB⟩ := h.blk j c hj
    rw [hM] at hM'; cases hM'
    obtain ⟨_, _, h3⟩ := hB
    rcases h3 with h3 | ⟨_, _, _, h4, _⟩
    · exact absurd h3.1 hm
    · exact some_lt h4
  refine ⟨?_, ?_, ?_, hw'.frame, hw'.rmem, ?_, hw'.io⟩
  · intro j M hj
    by_cases e : j = i
    · exact .inr e
    · exact .inl (h.dom j M (old e hj))
  · intro j c hj
    by_cases e : j = i
    · subst e; rw [upd_same] at hj; cases hj; exact ⟨L, by simp [updS], hb⟩
    · rw [upd_ne _ _ _ e] at hj
      obtain ⟨M, hM, hB⟩ := hw'.blk j c hj
      exact ⟨M, by simpa [updS, e] using hM, hB.mono (leM.refl _) (leS_updS hi)⟩
  · intro j k c d M N hj hk hM hN hjk hm hn
    by_cases e : j = i
    · subst e
      have := new hM; subst this
      have ek : k ≠ j := fun e => hjk e.symm
      rw [upd_ne _ _ _ ek] at hk
      have := low k d N hk (old ek hN) hn
      have := hr hm
      omega
    · rw [upd_ne _ _ _ e] at hj
      by_cases e' : k = i
      · subst e'
        have := new hN; subst this
        have := low j c M hj (old e hM) hm
        have := hr hn
        omega
      · rw [upd_ne _ _ _ e'] at hk
        exact h.inj j k c d M N hj hk (old e hM) (old e' hN) hjk hm hn
  · intro j c M hj hM hm
    by_cases e : j = i
    · subst e
      have := new hM; subst this
      have hge := hr hm
      refine ⟨?_, ?_⟩
      · cases hF : F M.r with
        | none => rfl
        | some o => have := some_lt (h.frame _ _ hF); omega
      · cases hF : ρ M.r with
        | none => rfl
        | some o => have := some_lt (h.rmem _ _ hF); omega
    · rw [upd_ne _ _ _ e] at hj; exact h.apart j c M hj (old e hM) hm

/-- Blocks may be let go. -/
theorem HInv.drop {ρ σ D H H' F w} (h : HInv ρ σ D H F w) (hs : ∀ i b, H' i = some b → H i = some b) : HInv ρ σ D H' F w :=
  ⟨h.dom, fun i b hb => h.blk i b (hs i b hb), fun i j b c L M hi hj => h.inj i j b c L M (hs i b hi) (hs j c hj), h.frame, h.rmem,
    fun i b L hi => h.apart i b L (hs i b hi), h.io⟩

theorem HInv.wider {ρ σ D D' H F w} (h : HInv ρ σ D H F w) (hd : ∀ i, D i → D' i) : HInv ρ σ D' H F w :=
  { h with dom := fun i L hi => hd i (h.dom i L hi) }

end Go.Proofs.YtiekchfipaiflaaGreatDoor
