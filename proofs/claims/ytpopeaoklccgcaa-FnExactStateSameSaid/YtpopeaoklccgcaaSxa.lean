/- THE FRAMEWORK 'Sx', PART 1: symbolic states over worlds, and the meaning of a symbolic state. No project text. -/
import Derived.WalkKit
import Derived.WalkSpells
import Derived.Deep.LoopGhost
import Derived.Maps.AppendAt
import Derived.Deep.AppendLies
namespace Go.Sx
open Go Go.RowKit

/-- A slice's header without its length. -/
structure Sl where
  a : Option Addr
  c : Nat
/-- The slice of length n under this header. -/
def Sl.val (i : Sl) (n : Nat) : Value := .slice i.a n i.c

/-- Symbolic values: a value; a known bool; a pointer into local block k; a pointer into a row whose cells are known while the stamp is s; a closure over local cells. -/
inductive SV where
  | v (x : Value)
  | lit (b : Bool)
  | p (k off : Nat)
  | e (s : Nat) (ad : Addr) (cs : List Value) (off : Nat)
  | f (g : FuncId) (cap : List (Nat × Nat))

def ptr (A : Nat → Nat) (k o : Nat) : Value := .pointer (some ⟨A k, o, none⟩)
def SV.den (A : Nat → Nat) : SV → Value
  | .v x => x
  | .lit b => .bool b
  | .p k o => ptr A k o
  | .e _ ad _ off => .pointer (some (ad.add off))
  | .f g cap => .func (.func g) #[] (cap.map fun x => ptr A x.1 x.2).toArray

/-- A slice of n elements of sz cells reads as cs. -/
def RdS (w : World) (i : Sl) (sz : Nat) (cs : List Value) (n : Nat) : Prop :=
  cs.length = n * sz ∧ n ≤ i.c ∧ i.c ≤ maxLen ∧ (0 < n → ∃ ad, i.a = some ad ∧ ∀ j u, cs[j]? = some u → w.cell? (ad.add j) = some u)

/-- A fact about memory ('old': it held when the call began): a slice reads; a slice is the call's own (the head of a row of its own block, or nil) and reads; any other. -/
inductive Fct where
  | sl (old : Bool) (i : Sl) (sz : Nat) (cs : List Value) (n : Nat)
  | own (old : Bool) (i : Sl) (e : TypeId) (sz : Nat) (cs : List Value) (n : Nat)
  | other (old own : Bool) (foot : Nat → Prop) (P : World → Prop) (st : ∀ w w' : World, (∀ b, foot b → w'.heap[b]? = w.heap[b]?) → P w → P w')
def Fct.P : Fct → World → Prop
  | .sl _ i sz cs n, w => RdS w i sz cs n
  | .own _ i e sz cs n, w => w.ownsRow 0 e sz (i.val n) n cs
  | .other _ _ _ P _, w => P w
def Fct.foot : Fct → Nat → Prop
  | .sl _ i _ _ n, b => 0 < n ∧ ∃ ad, i.a = some ad ∧ b = ad.block
  | .own _ i _ _ _ _, b => ∃ ad, i.a = some ad ∧ b = ad.block
  | .other _ _ foot _ _, b => foot b
def Fct.isOwn : Fct → Bool
  | .sl .. => false
  | .own .. => true
  | .other _ o _ _ _ => o
def Fct.old : Fct → Bool
  | .sl old _ _ _ _ => old
  | .own old _ _ _ _ _ => old
  | .other old _ _ _ _ => old
theorem block_add (a : Addr) (j : Nat) : (a.add j).block = a.block := by unfold Addr.add; split <;> rfl
theorem Fct.st : ∀ (f : Fct) (w w' : World), (∀ b, f.foot b → w'.heap[b]? = w.heap[b]?) → f.P w → f.P w'
  | .sl old i sz cs n, w, w', hb, h => ⟨h.1, h.2.1, h.2.2.1, fun hn => by
    obtain ⟨ad, e, hc⟩ := h.2.2.2 hn
    refine ⟨ad, e, fun j u hu => ?_⟩
    rw [← hc j u hu]
    exact World.cell?_of_block (by rw [block_add]; exact hb ad.block ⟨hn, ad, e, rfl⟩)⟩
  | .own old i e sz cs n, w, w', hb, h => by
    refine ⟨h.1, ?_⟩
    rcases h.2 with h2 | ⟨g, cap, cur, hv, hg, hh, r⟩
    · exact .inl h2
    · refine .inr ⟨g, cap, cur, hv, hg, ?_, r⟩
      have : i.a = some ⟨g, 0, none⟩ := by simp only [Sl.val] at hv; injection hv
      rw [hb g ⟨_, this, rfl⟩]; exact hh
  | .other _ _ _ _ st, w, w', hb, h => st w w' hb h

def Dj (f g : Fct) : Prop := f.isOwn = true ∨ g.isOwn = true → ∀ b, f.foot b → ¬ g.foot b
theorem Dj.symm {f g : Fct} (h : Dj f g) : Dj g f := fun ho b hg hf => h ho.symm b hf hg

/-- w' is w, but for new blocks and for blocks in X. -/
structure ExtX (X : Nat → Prop) (w w' : World) : Prop where
  os : w'.os = w.os
  tape : w'.tape = w.tape
  output : w'.output = w.output
  size : w.heap.size ≤ w'.heap.size
  block : ∀ k, k < w.heap.size → ¬ X k → w'.heap[k]? = w.heap[k]?

def no : Nat → Prop := fun _ => False
abbrev Ext (w w' : World) : Prop := ExtX no w w'

theorem ExtX.refl (X : Nat → Prop) (w : World) : ExtX X w w := ⟨rfl, rfl, rfl, Nat.le_refl _, fun _ _ _ => rfl⟩
theorem ExtX.trans {X : Nat → Prop} {a b c : World} (h : ExtX X a b) (k : ExtX X b c) : ExtX X a c :=
  ⟨k.os.trans h.os, k.tape.trans h.tape, k.output.trans h.output, Nat.le_trans h.size k.size, fun i hi hx => (k.block i (Nat.lt_of_lt_of_le hi h.size) hx).trans (h.block i hi hx)⟩
theorem ExtX.trans' {X Y : Nat → Prop} {a b c : World} (h : ExtX X a b) (k : ExtX Y b c) (hy : ∀ i, i < a.heap.size → Y i → X i) : ExtX X a c :=
  ⟨k.os.trans h.os, k.tape.trans h.tape, k.output.trans h.output, Nat.le_trans h.size k.size, fun i hi hx => (k.block i (Nat.lt_of_lt_of_le hi h.size) (fun y => hx (hy i hi y))).trans (h.block i hi hx)⟩
theorem ExtX.mono {X Y : Nat → Prop} {a b : World} (h : ExtX X a b) (hy : ∀ i, i < a.heap.size → X i → Y i) : ExtX Y a b :=
  ⟨h.os, h.tape, h.output, h.size, fun i hi hx => h.block i hi (fun y => hx (hy i hi y))⟩
theorem Ext.any {X : Nat → Prop} {a b : World} (h : Ext a b) : ExtX X a b := h.mono fun _ _ => False.elim
theorem Ext.below {a b : World} (h : Ext a b) : Below a.heap.size a b := ⟨h.os, h.tape, h.output, h.size, fun k hk => h.block k hk (fun h => h)⟩
theorem Ext.of_below {a b : World} (h : Below a.heap.size a b) : Ext a b := ⟨h.os, h.tape, h.output, h.size, fun k hk _ => h.block k hk⟩
theorem Ext.drew (w : World) : Ext w w.drew := ⟨rfl, rfl, rfl, Nat.le_refl _, fun _ _ _ => rfl⟩
theorem ExtX.drawn {X : Nat → Prop} {a w : World} (h : ExtX X a w) (n : Nat) : ExtX X a { w with drawn := n } := ⟨h.os, h.tape, h.output, h.size, h.block⟩
theorem Ext.alloc (w : World) (o : Obj) : Ext w (w.alloc o) := ⟨rfl, rfl, rfl, by simp, fun k hk _ => Below.heap_alloc w o k hk⟩
theorem ExtX.setCell {X : Nat → Prop} (w : World) (p : Addr) (u : Value) (hp : X p.block) : ExtX X w (w.setCell p u) :=
  ⟨rfl, rfl, rfl, by simp [World.setCell], fun k _ hx => Below.heap_setCell w p u k (fun e => hx (e ▸ hp))⟩
theorem ExtX.grown {X : Nat → Prop} {w w' : World} {row : Option Nat} (h : w.grownBy w' row) (hr : ∀ g, row = some g → X g) : ExtX X w w' :=
  ⟨h.os, h.tape, h.output, h.size, fun k hk hx => h.block k hk (fun e => hx (hr k e.symm))⟩

/-- The facts that stand at a world. -/
def At (w : World) : List Fct → Prop
  | [] => True
  | f :: r => (f.P w ∧ ∀ b, f.foot b → b < w.heap.size) ∧ At w r
/-- Facts that a call leaves: they stand, they speak of new blocks alone, those that own do not meet. -/
structure New (w w' : World) (L : List Fct) : Prop where
  all : ∀ f ∈ L, f.P w' ∧ f.old = false ∧ ∀ b, f.foot b → w.heap.size ≤ b ∧ b < w'.heap.size
  dj : L.Pairwise Dj
theorem New.nil (w w' : World) : New w w' [] := ⟨by simp, .nil⟩

/-- What a call returns, and the facts that it leaves. -/
def Ret (w : World) (R : Value → List Fct → Prop) : Ending → World → Prop := fun e w' => ∃ v L, e = .returned v ∧ Ext w w' ∧ New w w' L ∧ R v L

/-- What is fixed through one function's body. -/
structure Env where
  P : Program
  w0 : World
  /-- blocks of old that may be written -/
  X : Nat → Prop
  /-- how many slots -/
  N : Nat
  /-- the pointers that came in: block number k < n0 is A0 k -/
  n0 : Nat
  A0 : Nat → Nat

abbrev mkEnv (P : Program) (w : World) (N : Nat) : Env := ⟨P, w, no, N, 0, fun _ => 0⟩

def SV.small (n : Nat) : SV → Prop
  | .v _ => True
  | .lit _ => True
  | .p k _ => k < n
  | .e .. => False
  | .f _ cap => ∀ x ∈ cap, x.1 < n
def SV.okT (n c : Nat) (w : World) : SV → Prop
  | .v _ => True
  | .lit _ => True
  | .p k _ => k < n
  | .e s ad cs _ => s ≤ c ∧ (s = c → ∀ j u, cs[j]? = some u → w.cell? (ad.add j) = some u)
  | .f _ cap => ∀ x ∈ cap, x.1 < n

def look : List (Nat × SV) → Nat → Option SV
  | [], _ => none
  | (k, x) :: r, t => match Nat.beq k t with
    | true => some x
    | false => look r t
def lookM : List ((Nat × Nat) × SV) → Nat → Nat → Option SV
  | [], _, _ => none
  | ((k, o), x) :: r, k', o' => match Nat.beq k k' with
    | true => (match Nat.beq o o' with
      | true => some x
      | false => lookM r k' o')
    | false => lookM r k' o'

/-- The memory's part of a symbolic state. A: the block that local block number k is. -/
structure WD (E : Env) (A : Nat → Nat) (n : Nat) (B : List (Nat × TypeId × Nat)) (M : List ((Nat × Nat) × SV)) (F : List Fct) (w : World) : Prop where
  key : ∀ k ty sz, (k, ty, sz) ∈ B → k < n ∧ A k < w.heap.size ∧ (E.w0.heap.size ≤ A k ∨ E.X (A k)) ∧ ∃ cs, w.heap[A k]? = some (.cells cs ty (0, 0)) ∧ cs.size = sz
  inj : ∀ k ty sz k' ty' sz', (k, ty, sz) ∈ B → (k', ty', sz') ∈ B → A k = A k' → k = k'
  mem : ∀ k o v, lookM M k o = some v → (∃ ty sz, (k, ty, sz) ∈ B) ∧ w.cell? ⟨A k, o, none⟩ = some (v.den A) ∧ v.small n
  a0 : ∀ k, k < E.n0 → A k = E.A0 k
  n0 : E.n0 ≤ n
  ext : ExtX E.X E.w0 w
  fct : ∀ f ∈ F, f.P w ∧ (∀ b, f.foot b → b < w.heap.size ∧ ∀ k ty sz, (k, ty, sz) ∈ B → A k ≠ b) ∧ (f.old = false → ∀ b, f.foot b → E.w0.heap.size ≤ b ∨ E.X b)
  dj : F.Pairwise Dj
/-- The slots' part. -/
structure TD (E : Env) (A : Nat → Nat) (T : List (Nat × SV)) (n c : Nat) (a : Act) (w : World) : Prop where
  size : a.tmps.size = E.N
  defers : a.defers = []
  tm : ∀ t v, look T t = some v → a.tmps.getD t undef = v.den A ∧ v.okT n c w

inductive St where
  | mk (T : List (Nat × SV)) (n c : Nat) (B : List (Nat × TypeId × Nat)) (M : List ((Nat × Nat) × SV)) (F : List Fct)

def DenA (E : Env) (A : Nat → Nat) : St → Act → World → Prop
  | .mk T n c B M F, a, w => WD E A n B M F w ∧ TD E A T n c a w
def Den (E : Env) (s : St) (a : Act) (w : World) : Prop := ∃ A, DenA E A s a w

/-- s stands wherever it is weakened to s'. -/
def Weak (E : Env) (s s' : St) : Prop := ∀ a w, Den E s a w → Den E s' a w
theorem Weak.refl (E : Env) (s : St) : Weak E s s := fun _ _ h => h

section small
variable {n m c : Nat} {w w' : World}
theorem SV.den_upd {A : Nat → Nat} {v : SV} (h : v.okT n c w) (g : Nat) (m : Nat) (hm : n ≤ m) : v.den (fun k => if k = m then g else A k) = v.den A := by
  cases v with
  | p k o => simp only [SV.okT] at h; simp [SV.den, ptr, show k ≠ m by omega]
  | f g cap =>
    simp only [SV.okT] at h
    simp only [SV.den]
    congr 2
    apply List.map_congr_left
    intro x hx
    have := h x hx
    simp [ptr, show x.1 ≠ m by omega]
  | _ => rfl
theorem SV.small_okT {v : SV} (h : v.small n) : v.okT n c w := by
  cases v <;> first | exact h | exact trivial | exact (h : False).elim
theorem SV.okT_step {v : SV} (h : v.okT n c w) (hn : n ≤ m) : v.okT m (c + 1) w' := by
  cases v with
  | p k o => exact Nat.lt_of_lt_of_le h hn
  | e s ad cs off => exact ⟨Nat.le_succ_of_le h.1, fun e => by have := h.1; omega⟩
  | f g cap => exact fun x hx => Nat.lt_of_lt_of_le (h x hx) hn
  | _ => trivial
theorem SV.okT_more {v : SV} (h : v.okT n c w) (hn : n ≤ m) : v.okT m c w := by
  cases v with
  | p k o => exact Nat.lt_of_lt_of_le h hn
  | e s ad cs off => exact h
  | f g cap => exact fun x hx => Nat.lt_of_lt_of_le (h x hx) hn
  | _ => trivial
theorem SV.small_more {v : SV} (h : v.small n) (hn : n ≤ m) : v.small m := by
  cases v with
  | p k o => exact Nat.lt_of_lt_of_le h hn
  | e s ad cs off => exact h.elim
  | f g cap => exact fun x hx => Nat.lt_of_lt_of_le (h x hx) hn
  | _ => trivial
end small

section
variable {X : Nat → Prop} {E : Env} {A : Nat → Nat} {T : List (Nat × SV)} {n c : Nat} {B : List (Nat × TypeId × Nat)} {M : List ((Nat × Nat) × SV)} {F : List Fct} {a : Act} {w w' : World}

theorem look_cons (d : Nat) (x : SV) (t : Nat) : look ((d, x) :: T) t = if d = t then some x else look T t := by
  simp only [look]
  by_cases h : d = t
  · subst h; rw [Nat.beq_refl]; simp
  · rw [show Nat.beq d t = false from by rw [← Bool.not_eq_true]; intro e; exact h (Nat.eq_of_beq_eq_true e)]; simp [h]
theorem lookM_cons (k o : Nat) (x : SV) (k' o' : Nat) : lookM (((k, o), x) :: M) k' o' = if k = k' ∧ o = o' then some x else lookM M k' o' := by
  simp only [lookM]
  by_cases h : k = k'
  · subst h
    rw [Nat.beq_refl]
    by_cases h2 : o = o'
    · subst h2; rw [Nat.beq_refl]; simp
    · rw [show Nat.beq o o' = false from by rw [← Bool.not_eq_true]; intro e; exact h2 (Nat.eq_of_beq_eq_true e)]; simp [h2]
  · rw [show Nat.beq k k' = false from by rw [← Bool.not_eq_true]; intro e; exact h (Nat.eq_of_beq_eq_true e)]; simp [h]

/-- A slot is written. -/
theorem TD.put (h : TD E A T n c a w) {d : Nat} {v : SV} (hd : d < E.N) (hv : v.okT n c w) : TD E A ((d, v) :: T) n c (a.put (some d) (v.den A)) w := by
  refine ⟨by simp [Act.put, h.size], h.defers, fun t x hx => ?_⟩
  rw [look_cons] at hx
  by_cases e : d = t
  · subst e
    simp at hx
    subst hx
    refine ⟨?_, hv⟩
    simp [Act.put, Array.getD_eq_getD_getElem?, h.size, hd]
  · simp [e] at hx
    obtain ⟨h1, h2⟩ := h.tm t x hx
    refine ⟨?_, h2⟩
    rw [← h1]
    simp [Act.put, Array.getD_eq_getD_getElem?, e]
/-- A slot that nobody knows is written. -/
theorem TD.putOther (h : TD E A T n c a w) {d : Nat} (v : Value) (hd : look T d = none) : TD E A T n c (a.put (some d) v) w := by
  refine ⟨by simp [Act.put, h.size], h.defers, fun t x hx => ?_⟩
  obtain ⟨h1, h2⟩ := h.tm t x hx
  refine ⟨?_, h2⟩
  rw [← h1]
  have e : d ≠ t := fun e => by subst e; rw [hd] at hx; cases hx
  simp [Act.put, Array.getD_eq_getD_getElem?, e]
/-- The world has moved on: no view stands any more. -/
theorem TD.step (h : TD E A T n c a w) (w' : World) : TD E A T n (c + 1) a w' :=
  ⟨h.size, h.defers, fun t v hv => ⟨(h.tm t v hv).1, SV.okT_step (h.tm t v hv).2 (Nat.le_refl _)⟩⟩
/-- A new local block has a number. -/
theorem TD.alloc (h : TD E A T n c a w) (g : Nat) (w' : World) : TD E (fun k => if k = n then g else A k) T (n + 1) (c + 1) a w' :=
  ⟨h.size, h.defers, fun t v hv => ⟨(h.tm t v hv).1.trans (SV.den_upd (h.tm t v hv).2 g n (Nat.le_refl _)).symm, SV.okT_step (h.tm t v hv).2 (Nat.le_succ _)⟩⟩

theorem Fct.keep {f : Fct} (h : f.P w) (hb : ∀ b, f.foot b → b < w.heap.size) (he : ExtX X w w') (hx : ∀ b, f.foot b → ¬ X b) : f.P w' :=
  f.st w w' (fun b hf => he.block b (hb b hf) (hx b hf)) h

/-- The world grows by new blocks, and by writes to blocks that no part of the state speaks of. -/
theorem WD.grow (h : WD E A n B M F w) (he : ExtX X w w') (hA : ∀ k ty sz, (k, ty, sz) ∈ B → ¬ X (A k)) (hF : ∀ f ∈ F, ∀ b, f.foot b → ¬ X b) (hold : ∀ b, b < E.w0.heap.size → X b → E.X b) : WD E A n B M F w' := by
  refine ⟨?_, h.inj, ?_, h.a0, h.n0, h.ext.trans' he hold, ?_, h.dj⟩
  · intro k ty sz hk
    obtain ⟨h1, h2, h3, cs, h4, h5⟩ := h.key k ty sz hk
    exact ⟨h1, Nat.lt_of_lt_of_le h2 he.size, h3, cs, by rw [he.block _ h2 (hA k ty sz hk)]; exact h4, h5⟩
  · intro k o v hv
    obtain ⟨⟨ty, sz, hk⟩, h2, h3⟩ := h.mem k o v hv
    refine ⟨⟨ty, sz, hk⟩, ?_, h3⟩
    rw [← h2]
    exact World.cell?_of_block (he.block _ (h.key k ty sz hk).2.1 (hA k ty sz hk))
  · intro f hf
    obtain ⟨h1, h2, h3⟩ := h.fct f hf
    exact ⟨Fct.keep h1 (fun b hb => (h2 b hb).1) he (hF f hf), fun b hb => ⟨Nat.lt_of_lt_of_le (h2 b hb).1 he.size, (h2 b hb).2⟩, h3⟩
theorem WD.growExt (h : WD E A n B M F w) (he : Ext w w') : WD E A n B M F w' :=
  h.grow he (fun _ _ _ _ => fun h => h) (fun _ _ _ _ => fun h => h) (fun _ _ => False.elim)

/-- New facts are laid beside the old ones. -/
theorem WD.learn (h : WD E A n B M F w) (he : Ext w w') {L : List Fct} (hL : New w w' L) : WD E A n B M (L ++ F) w' := by
  have h' := h.growExt he
  refine ⟨h'.key, h'.inj, h'.mem, h'.a0, h'.n0, h'.ext, ?_, ?_⟩
  · intro f hf
    rcases List.mem_append.1 hf with hf | hf
    · obtain ⟨h1, h2, h3⟩ := hL.all f hf
      refine ⟨h1, fun b hb => ⟨(h3 b hb).2, fun k ty sz hk e => ?_⟩, fun _ b hb => .inl (Nat.le_trans h.ext.size (h3 b hb).1)⟩
      have := (h.key k ty sz hk).2.1
      have := (h3 b hb).1
      omega
    · exact h'.fct f hf
  · rw [List.pairwise_append]
    refine ⟨hL.dj, h.dj, fun f hf g hg _ b hb hb' => ?_⟩
    have := (hL.all f hf).2.2 b hb
    have := ((h.fct g hg).2.1 b hb').1
    omega

theorem WD.sub (h : WD E A n B M F w) {F' : List Fct} (hs : F'.Sublist F) : WD E A n B M F' w :=
  ⟨h.key, h.inj, h.mem, h.a0, h.n0, h.ext, fun f hf => h.fct f (hs.subset hf), h.dj.sublist hs⟩
theorem WD.nth (h : WD E A n B M F w) (i : Nat) {f : Fct} (hi : F[i]? = some f) : f.P w ∧ ∀ b, f.foot b → b < w.heap.size :=
  ⟨(h.fct f (List.mem_of_getElem? hi)).1, fun b hb => ((h.fct f (List.mem_of_getElem? hi)).2.1 b hb).1⟩
theorem WD.nthP (h : WD E A n B M F w) (i : Nat) {f : Fct} (hi : F[i]? = some f) : f.P w := (h.nth i hi).1
end
end Go.Sx
