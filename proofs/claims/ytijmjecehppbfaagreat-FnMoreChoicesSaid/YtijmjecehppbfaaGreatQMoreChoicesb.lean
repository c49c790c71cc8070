/- FnMoreChoices: texts that its proof stands on, part 2. -/
import Derived.OrdersHeld
import Derived.Test.YtijmjecehppbfaaGreatQMoreChoicesa
namespace Go.Sx
set_option maxRecDepth 100000
set_option maxHeartbeats 100000000
open Go Go.RowKit
structure BothW (p q : Prop) : Prop where
 l : p
 r : q
inductive GSt where
 | go
 | no
 | unk (t : Nat) (b : Bool)
 | bad
def eA (ops : List Oper) (T : List (Nat × SV)) : Option (Nat × Bool) → GSt
 | none => .go
 | some (j, kE) => match dQ0 ops T j with
   | some (_, .lit b) => (match b, kE with
     | true, true => .go
     | false, false => .go
     | true, false => .no
     | false, true => .no)
   | some (t, .v (.bool b)) => .unk t b
   | some (_, .v (.tuple _)) => .no
   | _ => .bad
def nT0 : Op → Bool
 | .indexAddr .. => true
 | .binOp .. => true
 | .slice .. => true
 | _ => false
inductive Pick where
 | pure (i : Nat) (d : Option Nat) (s : SV)
 | skip (i : Nat) (d : Option Nat)
 | split (t : Nat) (b : Bool)
 | idx (i : Nat) (o : Oper)
 | none
def eB (ti : Nat → TI) (ops : List Oper) (T : List (Nat × SV)) (c : Nat) (Ms : List ((Nat × Nat) × SV)) : List Nat → Pick
 | [] => .none
 | i :: r => match nth ops i with
   | some o => (match eA ops T o.guard with
     | .go => (match rG ti T c Ms o.op with
       | some s => .pure i o.dst s
       | none => (match nT0 o.op with
         | true => .idx i o
         | false => eB ti ops T c Ms r))
     | .no => .skip i o.dst
     | .unk t b => .split t b
     | .bad => eB ti ops T c Ms r)
   | none => eB ti ops T c Ms r
def gV0 : List Nat → (Nat → Prop) → Prop
 | [], _ => True
 | [i], p => p i
 | i :: r, p => BothW (p i) (gV0 r p)
theorem bZ0 : ∀ {l : List Nat} {p : Nat → Prop}, gV0 l p → ∀ i ∈ l, p i
 | [], _, _, i, hi => by cases hi
 | [x], _, h, i, hi => by simp at hi; subst hi; exact h
 | x :: y :: r, _, h, i, hi => by
   obtain ⟨h1, h2⟩ := h
   rcases List.mem_cons.1 hi with rfl | hi
   · exact h1
   · exact bZ0 h2 i hi
def sP : List ((Nat × Nat) × SV) → Nat → Nat → Nat → Bool
 | [], _, _, _ => true
 | ((k, o), _) :: r, k', o', l => match Nat.beq k k' with
   | true => (match Nat.blt o o' with
     | true => sP r k' o' l
     | false => (match Nat.blt o (o' + l) with
       | true => false
       | false => sP r k' o' l))
   | false => sP r k' o' l
theorem pV : ∀ {M : List ((Nat × Nat) × SV)} {k o l : Nat}, sP M k o l = true → ∀ k' o' v, dS M k' o' = some v → ¬ (k = k' ∧ o ≤ o' ∧ o' < o + l)
 | [], _, _, _, _, k', o', v, h => by simp [dS] at h
 | ((a, b), x) :: r, k, o, l, h, k', o', v, hv => by
   rw [mL] at hv
   simp only [sP] at h
   by_cases e : a = k' ∧ b = o'
   · obtain ⟨rfl, rfl⟩ := e
     split at h
     · rename_i hk
       have hk := Nat.eq_of_beq_eq_true hk
       split at h
       · rename_i hb
         have : b < o := by simpa using hb
         omega
       · split at h
         · cases h
         · rename_i hb
           have : ¬ b < o + l := fun h => by rw [show Nat.blt b (o + l) = true from by simpa using h] at hb; cases hb
           omega
     · rename_i hk
       have : ¬ a = k := fun e => by subst e; rw [Nat.beq_refl] at hk; cases hk
       omega
   · simp only [e, if_false] at hv
     split at h
     · split at h
       · exact pV h k' o' v hv
       · split at h
         · cases h
         · exact pV h k' o' v hv
     · exact pV h k' o' v hv
def kM (Fs F : List Fct) : Prop := ∀ f ∈ Fs, f ∈ F
def fU0 (Ms M : List ((Nat × Nat) × SV)) : Prop := ∀ k o v, dS Ms k o = some v → dS M k o = some v
def opD (E : Env) (o : Oper) (Ms : List ((Nat × Nat) × SV)) (Fs : List Fct) (next : St → Prop) (T : List (Nat × SV)) (n c : Nat) (B : List (Nat × TypeId × Nat)) (M : List ((Nat × Nat) × SV)) (F : List Fct) : Prop :=
 fU0 Ms M → kM Fs F → ∀ A a w, WD E A n B M F w → TD E A T n c a w → o.wp E.P a w (fun a' w' => ∃ A' T' n' c' B' M' F', (∀ k, k < n → A' k = A k) ∧ n ≤ n' ∧ (∀ x ∈ B, x ∈ B') ∧ fU0 Ms M' ∧ kM Fs F' ∧ WD E A' n' B' M' F' w' ∧ (∀ w2, TD E A' T' n' c' a' w2) ∧ next (.mk T' n' c' B' M' F')) (fun _ _ _ => False)
def opD0 (E : Env) (o : Oper) (Fs : List Fct) (next : St → Prop) (T : List (Nat × SV)) (n c : Nat) (B : List (Nat × TypeId × Nat)) (M : List ((Nat × Nat) × SV)) (F : List Fct) : Prop :=
 kM Fs F → ∀ A a w, WD E A n B M F w → TD E A T n c a w → o.wp E.P a w (fun a' w' => ∃ T' c' F', WD E A n B M F' w' ∧ (∀ w2, TD E A T' n c' a' w2) ∧ kM Fs F' ∧ next (.mk T' n c' B M F')) (fun _ _ _ => False)
theorem opD0.up {E : Env} {o : Oper} {Ms : List ((Nat × Nat) × SV)} {Fs : List Fct} {next : St → Prop} {T : List (Nat × SV)} {n c : Nat} {B : List (Nat × TypeId × Nat)} {M : List ((Nat × Nat) × SV)} {F : List Fct} (h : opD0 E o Fs next T n c B M F) : opD E o Ms Fs next T n c B M F := by
 intro hm hf A a w hW hT
 have := h hf A a w hW hT
 refine Oper.wp_mono (Q := fun _ _ _ => False) ?_ this
 rintro a' w' ⟨T', c', F', h1, h2, h3, h4⟩
 exact ⟨A, T', n, c', B, M, F', fun _ _ => rfl, Nat.le_refl _, fun _ h => h, hm, h3, h1, h2, h4⟩
def yA (E : Env) (ti : Nat → TI) (o : Oper) (Ms : List ((Nat × Nat) × SV)) (Fs : List Fct) (next : St → Prop) (T : List (Nat × SV)) (n c : Nat) (B : List (Nat × TypeId × Nat)) (M : List ((Nat × Nat) × SV)) (F : List Fct) : Op → Prop
 | .alloc t => (match ti t with
   | .mk _ sz zero _ _ _ _ _ => (match o.dst with
     | some d => (match Nat.blt d E.N with
       | true => (match Nat.beq (dG zero) sz with
         | true => kI n 0 (zero.map .v) M fun M' => next (.mk ((d, .p n 0) :: T) (n + 1) (c + 1) ((n, t, sz) :: B) M' F)
         | false => False)
       | false => False)
     | none => False)
   | .none => False)
 | .load t x => (match rF (ti t) T c M x with
   | some s => (match o.dst with
     | some d => (match Nat.blt d E.N with
       | true => (match s with
         | .e .. => False
         | s => next (.mk ((d, s) :: T) n (c + 1) B M F))
       | false => False)
     | none => False)
   | none => OpW (opD E o Ms Fs next T n c B M F))
 | .store t x y => (match o.dst with
   | some _ => False
   | none => (match bF T x with
     | some (.p k off) => (match ti t with
       | .mk _ sz _ _ _ _ _ _ => (match bF T y with
         | some s => (match iR s with
           | some l => (match Nat.beq (dG l) sz with
             | true => (match uZ B k with
               | some bsz => (match Nat.ble (off + sz) bsz with
                 | true => (match sP Ms k off sz with
                   | true => kI k off l M fun M' => next (.mk T n (c + 1) B M' F)
                   | false => False)
                 | false => False)
               | none => False)
             | false => False)
           | none => False)
         | none => False)
       | .none => False)
     | _ => OpW (opD E o Ms Fs next T n c B M F)))
 | .buildSlice t len ps => (match ti t with
   | .mk _ _ _ _ (some e) _ _ _ => (match ti e with
     | .mk _ esz _ _ _ _ _ _ => (match o.dst with
       | some d => (match Nat.blt d E.N with
         | true => (match Nat.beq (dG ps.toList) len with
           | true => (match Nat.ble (len * esz + len) 16777216 with
             | true => (match lU T esz 0 ps.toList with
               | some cs => AllSl fun y => next (.mk ((d, .v (y.val len)) :: T) n (c + 1) B M (kC false y e esz cs len :: F))
               | none => False)
             | false => False)
           | false => False)
         | false => False)
       | none => False)
     | .none => False)
   | _ => False)
 | _ => OpW (opD E o Ms Fs next T n c B M F)
def dV0 : List Bool → Nat → Bool
 | [], _ => false
 | b :: _, 0 => b
 | _ :: r, n + 1 => dV0 r n
def rV : List Bool → Nat → List Bool
 | [], _ => []
 | _ :: r, 0 => true :: r
 | b :: r, n + 1 => b :: rV r n
def wT : List Oper → List Bool
 | [] => []
 | _ :: r => false :: wT r
def vX (L : List Bool) : List Edge → Bool
 | [] => true
 | e :: r => match e.ground with
   | .textOnly _ => vX L r
   | .gcOnly _ => vX L r
   | _ => (match dV0 L e.on with
     | true => vX L r
     | false => false)
def iA (L : List Bool) : Nat → List Oper → List Bool → List Nat
 | k, o :: r, b :: l => (match b with
   | true => iA L (k + 1) r l
   | false => (match vX L o.after.toList with
     | true => k :: iA L (k + 1) r l
     | false => iA L (k + 1) r l))
 | _, _, _ => []
def aH0 (o : Oper) (i : Nat) : Bool := o.after.any fun e => Region.binds .any e && e.on == i
def sQ (ops : Array Oper) : Bool := (List.range ops.size).all fun i => (List.range ops.size).all fun j => match ops[i]?, ops[j]? with
 | some x, some y => i == j || aH0 x j || aH0 y i || x.apart ops y
 | _, _ => true
theorem fV0 : ∀ (L : List Bool) (i : Nat), dV0 L i = L.toArray.getD i false
 | [], i => by simp [dV0]
 | b :: r, 0 => by simp [dV0]
 | b :: r, i + 1 => by rw [dV0, fV0 r i]; simp [Array.getD_eq_getD_getElem?]
theorem fW0 : ∀ (L : List Bool) (i : Nat), rV L i = L.set i true
 | [], i => by simp [rV]
 | b :: r, 0 => by simp [rV]
 | b :: r, i + 1 => by rw [rV, fW0 r i]; simp
theorem uI : ∀ (l : List Oper), wT l = List.replicate l.length false
 | [] => rfl
 | _ :: r => by rw [wT, uI r, List.length_cons, List.replicate_succ]
theorem aI0 (L : List Bool) : ∀ (es : List Edge), vX L es = true ↔ ∀ e ∈ es, Region.binds .any e = true → L.toArray.getD e.on false = true
 | [] => by simp [vX]
 | e :: r => by
   rw [List.forall_mem_cons, ← aI0 L r, ← fV0]
   have e1 : (Region.Mode.any == Region.Mode.text) = false := rfl
   have e2 : (Region.Mode.any == Region.Mode.gc) = false := rfl
   cases hg : e.ground <;> cases hn : dV0 L e.on <;> simp [vX, Region.binds, hg, hn, e1, e2]
theorem vF (L : List Bool) : ∀ (ops : List Oper) (l : List Bool) (k i : Nat), i ∈ iA L k ops l ↔ ∃ j, i = k + j ∧ l[j]? = some false ∧ ∃ o, ops[j]? = some o ∧ vX L o.after.toList = true
 | [], l, k, i => by cases l <;> simp [iA]
 | o :: r, [], k, i => by simp [iA]
 | o :: r, b :: l, k, i => by
   have ih := vF L r l (k + 1) i
   have e : (∃ j, i = k + j ∧ (b :: l)[j]? = some false ∧ ∃ x, (o :: r)[j]? = some x ∧ vX L x.after.toList = true) ↔ (i = k ∧ b = false ∧ vX L o.after.toList = true) ∨ (∃ j, i = k + 1 + j ∧ l[j]? = some false ∧ ∃ x, r[j]? = some x ∧ vX L x.after.toList = true) := by
     constructor
     · rintro ⟨j, h1, h2, x, h3, h4⟩
       cases j with
       | zero =>
         simp only [List.getElem?_cons_zero, Option.some.injEq] at h2 h3
         subst h3
         exact .inl ⟨h1, h2, h4⟩
       | succ j => exact .inr ⟨j, by omega, by simpa using h2, x, by simpa using h3, h4⟩
     · rintro (⟨h1, h2, h3⟩ | ⟨j, h1, h2, x, h3, h4⟩)
       · exact ⟨0, h1, by simp [h2], o, by simp, h3⟩
       · exact ⟨j + 1, by omega, by simpa using h2, x, by simpa using h3, h4⟩
   rw [e, ← ih]
   cases b with
   | true => simp [iA]
   | false => cases hr : vX L o.after.toList <;> simp [iA, hr]
theorem jK {L : List Bool} {ops : List Oper} {i : Nat} : i ∈ iA L 0 ops L ↔ i ∈ Region.ready .any ops.toArray L.toArray := by
 rw [vF, mem_ready]
 constructor
 · rintro ⟨j, h1, h2, o, h3, h4⟩
   obtain rfl : i = j := by omega
   exact ⟨by simp [Array.getD_eq_getD_getElem?, h2], o, by simpa using h3, fun e he => (aI0 L _).1 h4 e (by simpa using he)⟩
 · rintro ⟨h2, o, h3, h4⟩
   refine ⟨i, by omega, ?_, o, by simpa using h3, (aI0 L _).2 fun e he => h4 e (by simpa using he)⟩
   rw [Array.getD_eq_getD_getElem?] at h2
   simp only [List.getElem?_toArray] at h2
   cases hx : L[i]? with
   | none => rw [hx] at h2; simp at h2
   | some b => rw [hx] at h2; simp at h2; rw [h2]
theorem nV {ops : List Oper} (h : sQ ops.toArray = true) {L : List Bool} {i : Nat} (hi : i ∈ Region.ready .any ops.toArray L.toArray) : Region.free .any ops.toArray L.toArray i = true := by
 obtain ⟨h1, o, h2, h3⟩ := mem_ready.1 hi
 unfold Region.free
 rw [h2]
 simp only [List.all_eq_true]
 intro j hj
 have hil : i < ops.toArray.size := (Array.getElem?_eq_some_iff.1 h2).1
 simp only [sQ, List.all_eq_true] at h
 have hij := h i (by simpa using hil) j hj
 rw [h2] at hij
 cases hjo : ops.toArray[j]? with
 | none => simp
 | some oj =>
   rw [hjo] at hij
   simp only [Bool.or_eq_true] at hij ⊢
   rcases hij with ((hij | hij) | hij) | hij
   · exact .inl (.inl (by simp only [beq_iff_eq] at hij ⊢; exact hij.symm))
   · left; right
     simp only [aH0, Array.any_eq_true', Bool.and_eq_true, beq_iff_eq] at hij
     obtain ⟨e, he, hb, rfl⟩ := hij
     have := h3 e he hb
     rw [Array.getD_eq_getD_getElem?] at this ⊢
     cases hx : L.toArray[e.on]? with
     | none => rw [hx] at this; simp at this
     | some b => rw [hx] at this; simp at this; simp [this]
   · right; left; exact hij
   · right; right; exact hij
def vcD (E : Env) (ti : Nat → TI) (ops : List Oper) (n0 : Nat) (B0 : List (Nat × TypeId × Nat)) (Ms : List ((Nat × Nat) × SV)) (Fs : List Fct) (K : St → Prop) : Nat → List Bool → St → Prop
 | 0, _, _ => False
 | f + 1, L, .mk T n c B M F => match eB ti ops T c Ms (iA L 0 ops L) with
   | .pure i d s => (match d with
       | some d => (match Nat.blt d E.N with
         | true => vcD E ti ops n0 B0 Ms Fs K f (rV L i) (.mk ((d, s) :: T) n c B M F)
         | false => False)
       | none => vcD E ti ops n0 B0 Ms Fs K f (rV L i) (.mk T n c B M F))
   | .skip i d => (match d with
       | some d => (match Nat.blt d E.N with
         | true => vcD E ti ops n0 B0 Ms Fs K f (rV L i) (.mk ((d, .v undef) :: T) n c B M F)
         | false => False)
       | none => vcD E ti ops n0 B0 Ms Fs K f (rV L i) (.mk T n c B M F))
   | .split t b => CaseB b (vcD E ti ops n0 B0 Ms Fs K f L (.mk ((t, .lit true) :: T) n c B M F)) (vcD E ti ops n0 B0 Ms Fs K f L (.mk ((t, .lit false) :: T) n c B M F))
   | .idx i o => OpW (∀ A, ∃ s : SV, (∀ a w, WD E A n0 B0 Ms Fs w → TD E A T n c a w → (execOp a.eval o).run E.P w = .ok (.value (s.den A)) w ∧ s.okT n c w) ∧ (∃ d, Dst E o d ∧ vcD E ti ops n0 B0 Ms Fs K f (rV L i) (.mk ((d, s) :: T) n c B M F)))
   | .none => (match iA L 0 ops L with
     | [] => K (.mk T n c B M F)
     | i :: r => gV0 (i :: r) fun i => match nth ops i with
       | some o => (match eA ops T o.guard with
         | .go => yA E ti o Ms Fs (fun s' => vcD E ti ops n0 B0 Ms Fs K f (rV L i) s') T n c B M F o.op
         | _ => False)
       | none => False)
section
variable {E : Env} {ti : Nat → TI}
theorem yN {A A' : Nat → Nat} {n : Nat} (h : ∀ k, k < n → A k = A' k) {v : SV} (hv : v.small n) : v.den A = v.den A' := by
 cases v with
 | p k o => simp [SV.den, ptr, h k hv]
 | f g cap =>
   simp only [SV.den]
   congr 2
   apply List.map_congr_left
   intro x hx
   simp [ptr, h x.1 (hv x hx)]
 | _ => rfl
theorem WD.agree {A A' : Nat → Nat} {n : Nat} {B : List (Nat × TypeId × Nat)} {M : List ((Nat × Nat) × SV)} {F : List Fct} {w : World} (h : WD E A n B M F w) (ha : ∀ k, k < n → A k = A' k) : WD E A' n B M F w := by
 refine ⟨?_, ?_, ?_, ?_, h.n0, h.ext, ?_, h.dj⟩
 · intro k ty sz hk
   have := h.key k ty sz hk
   rw [ha k this.1] at this
   exact this
 · intro k ty sz k' ty' sz' hk hk' e
   rw [← ha k (h.key _ _ _ hk).1, ← ha k' (h.key _ _ _ hk').1] at e
   exact h.inj _ _ _ _ _ _ hk hk' e
 · intro k o v hv
   obtain ⟨⟨ty, sz, hk⟩, h2, h3⟩ := h.mem k o v hv
   refine ⟨⟨ty, sz, hk⟩, ?_, h3⟩
   rw [← ha k (h.key _ _ _ hk).1, ← yN ha h3]
   exact h2
 · intro k hk
   rw [← ha k (Nat.lt_of_lt_of_le hk h.n0)]
   exact h.a0 k hk
 · intro f hf
   obtain ⟨h1, h2, h3⟩ := h.fct f hf
   exact ⟨h1, fun b hb => ⟨(h2 b hb).1, fun k ty sz hk => by rw [← ha k (h.key _ _ _ hk).1]; exact (h2 b hb).2 k ty sz hk⟩, h3⟩
structure InvD (E : Env) (A0 : Nat → Nat) (n0 : Nat) (B0 : List (Nat × TypeId × Nat)) (Ms : List ((Nat × Nat) × SV)) (Fs : List Fct) (A : Nat → Nat) (n : Nat) (B : List (Nat × TypeId × Nat)) (M : List ((Nat × Nat) × SV)) (F : List Fct) (w : World) : Prop where
 ag : ∀ k, k < n0 → A k = A0 k
 hn : n0 ≤ n
 hb : ∀ x ∈ B0, x ∈ B
 hm : ∀ k o v, dS Ms k o = some v → dS M k o = some v
 hf : kM Fs F
 hw : WD E A n B M F w
theorem InvD.start {A0 A : Nat → Nat} {n0 n : Nat} {B0 B : List (Nat × TypeId × Nat)} {Ms M : List ((Nat × Nat) × SV)} {Fs F : List Fct} {w ws : World} (h : InvD E A0 n0 B0 Ms Fs A n B M F w) (hs : WD E A0 n0 B0 Ms Fs ws) : WD E A0 n0 B0 Ms Fs w := by
 refine ⟨?_, ?_, ?_, hs.a0, hs.n0, h.hw.ext, ?_, hs.dj⟩
 · intro k ty sz hk
   obtain ⟨h1, _⟩ := hs.key k ty sz hk
   obtain ⟨_, h2⟩ := h.hw.key k ty sz (h.hb _ hk)
   rw [h.ag k h1] at h2
   exact ⟨h1, h2⟩
 · exact hs.inj
 · intro k o v hv
   obtain ⟨⟨ty, sz, hk⟩, _, h3⟩ := hs.mem k o v hv
   refine ⟨⟨ty, sz, hk⟩, ?_, h3⟩
   have := (h.hw.mem k o v (h.hm k o v hv)).2.1
   rw [h.ag k (hs.key _ _ _ hk).1, yN h.ag h3] at this
   exact this
 · intro f hf
   obtain ⟨h1, h2, h3⟩ := h.hw.fct f (h.hf f hf)
   exact ⟨h1, fun b hb => ⟨(h2 b hb).1, fun k ty sz hk => by rw [← h.ag k (hs.key _ _ _ hk).1]; exact (h2 b hb).2 k ty sz (h.hb _ hk)⟩, h3⟩
theorem wU {A : Nat → Nat} {T : List (Nat × SV)} {n c : Nat} {a : Act} {w : World} (hti : ∀ t, bK E.P t (ti t)) (hT : TD E A T n c a w) {o : Oper} {t e len : Nat} {ps : Array (Nat × Operand)} {agg : Bool} {size : Nat} {zero : List Value} {fs : List (Nat × Nat × Bool)} {ik : Option IntKind} {kd bytes : Nat} {agg2 : Bool} {esz : Nat} {zero2 : List Value} {fs2 : List (Nat × Nat × Bool)} {el2 : Option TypeId} {ik2 : Option IntKind} {kd2 bytes2 : Nat} {cs : List Value}
   (hop : o.op = .buildSlice t len ps) (hte : ti t = .mk agg size zero fs (some e) ik kd bytes) (hte2 : ti e = .mk agg2 esz zero2 fs2 el2 ik2 kd2 bytes2) (hplen : Nat.beq (dG ps.toList) len = true) (h24 : Nat.ble (len * esz + len) 16777216 = true) (hcs : lU T esz 0 ps.toList = some cs) :
   (execOp a.eval o).run E.P w = .ok (.value (.slice (some ⟨w.heap.size, 0, none⟩) len len)) (w.alloc (.cells cs.toArray e)) ∧ Ext w (w.alloc (.cells cs.toArray e)) ∧ New w (w.alloc (.cells cs.toArray e)) [kC false ⟨some ⟨w.heap.size, 0, none⟩, len⟩ e esz cs len] := by
 have htt := hti t
 rw [hte] at htt
 obtain ⟨ii, dd, z, e1, e2, e3, e4, e5, e6, e7, e8, e9, e10, e11⟩ := aS htt
 have htt2 := hti e
 rw [hte2] at htt2
 obtain ⟨ii2, dd2, z2, k1, k2, k3, k4, k5, k6, k7, k8, k9, k10, k11⟩ := aS htt2
 have hdd := gD e8
 have hlen := Nat.eq_of_beq_eq_true hplen
 rw [dF] at hlen
 have h24' := Nat.le_of_ble_eq_true h24
 obtain ⟨r, g1, g2, g3⟩ : ∃ r, cs.length = len * esz ∧ Instr.fill (fun i => some (i * esz, esz)) ((Array.range (len * esz)).map (((if len * esz = 0 then #[] else z2.cells) : Array Value)[· % ((if len * esz = 0 then #[] else z2.cells) : Array Value).size]!)) (ps.toList.map fun x => (x.1, a.eval x.2)) = some r ∧ r.toList = cs := by
   obtain ⟨q1, r, q2, q3⟩ := rR hT (acc := (Array.range (len * esz)).map (((if len * esz = 0 then #[] else z2.cells) : Array Value)[· % ((if len * esz = 0 then #[] else z2.cells) : Array Value).size]!)) hcs (by simp [hlen])
   exact ⟨r, by rw [q1, hlen], q2, by simpa using q3⟩
 have hrcs : r = cs.toArray := by apply Array.ext'; simpa using g3
 have hr : (execOp a.eval o).run E.P w = .ok (.value (.slice (some ⟨w.heap.size, 0, none⟩) len len)) (w.alloc (.cells cs.toArray e)) := by
   have hps : (ps.map fun (x : Nat × Operand) => (x.1, a.eval x.2)).toList = ps.toList.map fun x => (x.1, a.eval x.2) := by simp
   have hdd2 : E.P.underlying t = some (.slice e) := by rw [e2, hdd]
   simp only [execOp, hop, Instr.buildSlice, Sem.run_bind, underlying, run_program, Result.andThen_ok, hdd2, Sem.run_pure, dE k1, k4, hps]
   rw [if_neg (show ¬ (len * esz > 2 ^ 24) by omega)]
   by_cases h0 : len * esz = 0
   · simp only [h0, if_true] at g2 ⊢
     simp only [Sem.run_bind, Sem.run_pure, Result.andThen_ok]
     rw [g2]
     simp [newRow, hrcs]
   · simp only [h0, if_false] at g2 ⊢
     simp only [Sem.run_bind, Sem.run_pure, Result.andThen_ok, zeroValue, typeInfo, run_program, k1, k5]
     rw [g2]
     simp [newRow, hrcs]
 have hex := Ext.alloc w (.cells cs.toArray e)
 have hown : (w.alloc (.cells cs.toArray e)).ownsRow 0 e esz (Sl.val ⟨some ⟨w.heap.size, 0, none⟩, len⟩ len) len cs := by
   refine ⟨g1, .inr ⟨w.heap.size, len, cs.toArray, rfl, Nat.zero_le _, heap_alloc_new w _, Nat.le_refl _, ?_, by simp [g1], ?_⟩⟩
   · simp only [maxLen]; omega
   · simp [← g1]
 have hnew : New w (w.alloc (.cells cs.toArray e)) [kC false ⟨some ⟨w.heap.size, 0, none⟩, len⟩ e esz cs len] := by
   refine ⟨fun f hf => ?_, List.pairwise_singleton _ _⟩
   simp only [List.mem_singleton] at hf
   subst hf
   refine ⟨hown, rfl, fun b hb => ?_⟩
   obtain ⟨ad, h1, h2⟩ := hb
   simp only [Option.some.injEq] at h1
   subst h1
   simp at h2
   subst h2
   simp
 exact ⟨hr, hex, hnew⟩
theorem dW0 (hti : ∀ t, bK E.P t (ti t)) {o : Oper} {next : St → Prop} {A0 A : Nat → Nat} {n0 n c : Nat} {B0 B : List (Nat × TypeId × Nat)} {Ms M : List ((Nat × Nat) × SV)} {Fs F : List Fct} {T : List (Nat × SV)} {a : Act} {w ws : World}
   (hv : yA E ti o Ms Fs next T n c B M F o.op) (hI : InvD E A0 n0 B0 Ms Fs A n B M F w) (hs : WD E A0 n0 B0 Ms Fs ws) (hT : TD E A T n c a w) {K : Act → World → Prop} {Q : Exit → Act → World → Prop}
   (hK : ∀ A' T' n' c' B' M' F' a' w', InvD E A0 n0 B0 Ms Fs A' n' B' M' F' w' → (∀ w2, TD E A' T' n' c' a' w2) → next (.mk T' n' c' B' M' F') → K a' w') :
   o.wp E.P a w K Q := by
 have hMlt : ∀ k o v, dS Ms k o = some v → k < n0 := fun k o v hv => by
   obtain ⟨⟨ty, sz, hk⟩, _⟩ := hs.mem k o v hv
   exact (hs.key _ _ _ hk).1
 cases hop : o.op <;> rw [hop] at hv <;> simp only [yA] at hv
 case alloc t =>
   split at hv
   · rename_i agg sz zero fs el ik kd bytes hte
     split at hv
     · rename_i d hd
       split at hv
       · rename_i hdn
         split at hv
         · rename_i hlen
           have htt := hti t
           rw [hte] at htt
           obtain ⟨ii, dd, z, e1, e2, e3, e4, e5, e6, e7, e8, e9, e10, e11⟩ := aS htt
           rw [eJ] at hv
           have hsz := Nat.eq_of_beq_eq_true hlen
           rw [dF] at hsz
           have hal := hI.hw.alloc (l := zero.map .v) (fun x hx => by obtain ⟨y, _, rfl⟩ := List.mem_map.1 hx; trivial) t
           have hcells : ((zero.map SV.v).map (SV.den A)).toArray = z.cells := by
             rw [List.map_map, show (SV.den A ∘ SV.v) = id from rfl, List.map_id, ← e6]
           rw [hcells, List.length_map, hsz] at hal
           have hr : (execOp a.eval o).run E.P w = .ok (.value (.pointer (some ⟨w.heap.size, 0, none⟩))) (w.alloc (.cells z.cells t)) := by
             simp [execOp, hop, yJ e1 e5]
           refine aW hr ?_
           rw [hd]
           refine hK (fun k => if k = n then w.heap.size else A k) _ _ _ _ _ _ _ _ ⟨fun k hk => ?_, Nat.le_succ_of_le hI.hn, fun x hx => by simp [hI.hb x hx], fun k o v hv => ?_, hI.hf, hal⟩ (fun w2 => ?_) hv
           · have := hI.hn
             simp only [if_neg (show k ≠ n by omega)]
             exact hI.ag k hk
           · have := hI.hn
             have hk := hMlt k o v hv
             rw [dJ, if_neg (by omega)]
             exact hI.hm k o v hv
           · have := (hT.alloc w.heap.size w2).put (d := d) (v := .p n 0) z90 (Nat.lt_succ_self n)
             simpa [SV.den, ptr] using this
         · exact hv.elim
       · exact hv.elim
     · exact hv.elim
   · exact hv.elim
 case load t x =>
   split at hv
   · rename_i s hsl
     split at hv
     · rename_i d hd
       split at hv
       · rename_i hdn
         obtain ⟨h1, h2⟩ := pM hti (fun k o v hv => (hI.hw.mem k o v hv).2) hT hsl o hop
         refine aW h1 ?_
         rw [hd]
         split at hv
         · exact hv.elim
         · rename_i hne
           refine hK A _ _ _ _ _ _ _ _ ⟨hI.ag, hI.hn, hI.hb, hI.hm, hI.hf, hI.hw⟩ (fun w2 => (hT.step w2).put z90 ?_) hv
           cases s with
           | e s ad cs off => exact (hne s ad cs off rfl).elim
           | p k o => exact h2
           | f g cap => exact h2
           | _ => trivial
       · exact hv.elim
     · exact hv.elim
   · obtain ⟨hv⟩ := hv
     exact Oper.wp_weak (fun a w ⟨A', T', n', c', B', M', F', g1, g2, g3, g4, g5, h1, h2, h4⟩ => hK A' _ _ _ _ _ _ _ _ ⟨fun k hk => (g1 k (Nat.lt_of_lt_of_le hk hI.hn)).trans (hI.ag k hk), Nat.le_trans hI.hn g2, fun x hx => g3 x (hI.hb x hx), g4, g5, h1⟩ h2 h4) (hv hI.hm hI.hf A a w hI.hw hT)
 case store t x y =>
   split at hv
   · exact hv.elim
   · rename_i hd
     split at hv
     · rename_i k off hx
       split at hv
       · rename_i agg sz zero fs el ik kd bytes hte
         split at hv
         · rename_i s hs'
           split at hv
           · rename_i l hl
             split at hv
             · rename_i hlen
               split at hv
               · rename_i bsz hb
                 split at hv
                 · rename_i hle
                   split at hv
                   · rename_i hnk
                     rw [eJ] at hv
                     have htt := hti t
                     rw [hte] at htt
                     obtain ⟨ii, dd, z, e1, e2, e3, e4, e5, e6, e7, e8, e9, e10, e11⟩ := aS htt
                     obtain ⟨h1, h2⟩ := aI hT hs'
                     obtain ⟨h3, h4⟩ := aI hT hx
                     obtain ⟨c1, c2, c3⟩ := iS (A := A) hl h2
                     obtain ⟨ty, hmem⟩ := qQ hb
                     have hsz := Nat.eq_of_beq_eq_true hlen
                     rw [dF] at hsz
                     obtain ⟨w', hrun, hW'⟩ := hI.hw.store hmem c2 c3 (by rw [hsz]; exact Nat.le_of_ble_eq_true hle) E.P
                     have hcs : (s.den A).cells.size = ii.size := by
                       have : (s.den A).cells.toList.length = l.length := by rw [c1]; simp
                       simp at this
                       rw [this, hsz, e4]
                     have hr : (execOp a.eval o).run E.P w = .ok .skip w' := by
                       have h3' : a.eval x = .pointer (some ⟨A k, off, none⟩) := h3
                       simp only [execOp, hop, Instr.storeAt, h1, h3', Instr.sureAddr, Sem.run_bind, Sem.run_pure, Result.andThen_ok, storeVar, dE e1]
                       rw [if_neg (by simp [hcs]), c1]
                       simp only [Result.andThen_ok, hrun]
                     refine iT hr ?_
                     rw [hd]
                     refine hK A _ _ _ _ _ _ _ _ ⟨hI.ag, hI.hn, hI.hb, fun k' o' v hv => ?_, hI.hf, hW'⟩ (fun w2 => hT.step w2) hv
                     rw [dJ, if_neg (by rw [hsz]; exact pV hnk k' o' v hv)]
                     exact hI.hm k' o' v hv
                   · exact hv.elim
                 · exact hv.elim
               · exact hv.elim
             · exact hv.elim
           · exact hv.elim
         · exact hv.elim
       · exact hv.elim
     · obtain ⟨hv⟩ := hv
       exact Oper.wp_weak (fun a w ⟨A', T', n', c', B', M', F', g1, g2, g3, g4, g5, h1, h2, h4⟩ => hK A' _ _ _ _ _ _ _ _ ⟨fun k hk => (g1 k (Nat.lt_of_lt_of_le hk hI.hn)).trans (hI.ag k hk), Nat.le_trans hI.hn g2, fun x hx => g3 x (hI.hb x hx), g4, g5, h1⟩ h2 h4) (hv hI.hm hI.hf A a w hI.hw hT)
 case buildSlice t len ps =>
   split at hv
   · rename_i e ik kd bytes hte
     split at hv
     · rename_i agg2 esz zero2 fs2 el2 ik2 kd2 bytes2 hte2
       split at hv
       · rename_i d hd
         split at hv
         · rename_i hdn
           split at hv
           · rename_i hplen
             split at hv
             · rename_i h24
               split at hv
               · rename_i cs hcs
                 obtain ⟨hv⟩ := hv
                 obtain ⟨hr, hex, hnew⟩ := wU hti hT hop hte hte2 hplen h24 hcs
                 refine aW hr ?_
                 rw [hd]
                 exact hK A _ _ _ _ _ _ _ _ ⟨hI.ag, hI.hn, hI.hb, hI.hm, fun f hf => List.mem_cons_of_mem _ (hI.hf f hf), hI.hw.learn hex hnew⟩ (fun w2 => (hT.step w2).put (d := d) (v := .v (Sl.val ⟨some ⟨w.heap.size, 0, none⟩, len⟩ len)) z90 trivial) (hv ⟨some ⟨w.heap.size, 0, none⟩, len⟩)
               · exact hv.elim
             · exact hv.elim
           · exact hv.elim
         · exact hv.elim
       · exact hv.elim
     · exact hv.elim
   · exact hv.elim
 all_goals
   obtain ⟨hv⟩ := hv
   exact Oper.wp_weak (fun a w ⟨A', T', n', c', B', M', F', g1, g2, g3, g4, g5, h1, h2, h4⟩ => hK A' _ _ _ _ _ _ _ _ ⟨fun k hk => (g1 k (Nat.lt_of_lt_of_le hk hI.hn)).trans (hI.ag k hk), Nat.le_trans hI.hn g2, fun x hx => g3 x (hI.hb x hx), g4, g5, h1⟩ h2 h4) (hv hI.hm hI.hf A a w hI.hw hT)
def unl : List Bool → Nat
 | [] => 0
 | true :: r => unl r
 | false :: r => unl r + 1
theorem fX0 : ∀ {l : List Bool} {i : Nat}, l[i]? = some false → unl (l.set i true) + 1 = unl l
 | [], i, h => by simp at h
 | b :: r, 0, h => by simp at h; subst h; simp [unl]
 | b :: r, i + 1, h => by
   simp at h
   have := fX0 h
   cases b <;> simp [unl] <;> omega
theorem gW0 {md : Region.Mode} {ops : Array Oper} {L : Array Bool} {i : Nat} (h : i ∈ Region.ready md ops L) : unl (L.setIfInBounds i true).toList + 1 = unl L.toList := by
 have h0 := (mem_ready.1 h).1
 have h1 : L.toList[i]? = some false := by
   rw [Array.getD_eq_getD_getElem?] at h0
   rw [Array.getElem?_toList]
   cases hx : L[i]? with
   | none => rw [hx] at h0; simp at h0
   | some b => rw [hx] at h0; simp at h0; rw [h0]
 rw [Array.toList_setIfInBounds]
 exact fX0 h1
theorem rX {A : Nat → Nat} {T : List (Nat × SV)} {n c : Nat} {a : Act} {w : World} (h : TD E A T n c a w) {ops : List Oper} {g : Option (Nat × Bool)} (hg : eA ops T g = .go) (o : Oper) (ho : o.guard = g) : Region.wanted o (yielded ops.toArray a.tmps) = true := by
 unfold eA at hg
 split at hg
 · simp [Region.wanted, ho]
 · rename_i j kE
   split at hg
   · rename_i t b hgv
     have hy := (mP h hgv (b := b) rfl).1
     split at hg <;> first | (cases hg; done) | simp [Region.wanted, ho, hy]
   · cases hg
   · cases hg
   · cases hg
theorem dX0 {A : Nat → Nat} {T : List (Nat × SV)} {n c : Nat} {a : Act} {w : World} (h : TD E A T n c a w) {ops : List Oper} {g : Option (Nat × Bool)} (hg : eA ops T g = .no) (o : Oper) (ho : o.guard = g) : Region.wanted o (yielded ops.toArray a.tmps) = false := by
 unfold eA at hg
 split at hg
 · cases hg
 · rename_i j kE
   split at hg
   · rename_i t b hgv
     have hy := (mP h hgv (b := b) rfl).1
     split at hg <;> first | (cases hg; done) | simp [Region.wanted, ho, hy]
   · cases hg
   · rename_i t xs hgv
     have hy := yK h hgv (xs := xs) rfl
     simp [Region.wanted, ho, hy]
   · cases hg
theorem cA0 {A : Nat → Nat} {T : List (Nat × SV)} {n c : Nat} {a : Act} {w : World} (h : TD E A T n c a w) {ops : List Oper} {g : Option (Nat × Bool)} {t : Nat} {b : Bool} (hg : eA ops T g = .unk t b) : look T t = some (.v (.bool b)) := by
 unfold eA at hg
 split at hg
 · cases hg
 · rename_i j kE
   split at hg
   · split at hg <;> cases hg
   · rename_i hgv
     have := (mP h hgv (b := _) rfl).2
     cases hg
     exact this
   · cases hg
   · cases hg
theorem yO {ti : Nat → TI} {ops : List Oper} {T : List (Nat × SV)} {c : Nat} {Ms : List ((Nat × Nat) × SV)} : ∀ (rs : List Nat),
   (∀ i d s, eB ti ops T c Ms rs = .pure i d s → i ∈ rs ∧ ∃ o, ops[i]? = some o ∧ eA ops T o.guard = .go ∧ rG ti T c Ms o.op = some s ∧ o.dst = d) ∧
   (∀ i d, eB ti ops T c Ms rs = .skip i d → i ∈ rs ∧ ∃ o, ops[i]? = some o ∧ eA ops T o.guard = .no ∧ o.dst = d) ∧
   (∀ t b, eB ti ops T c Ms rs = .split t b → ∃ o : Oper, eA ops T o.guard = .unk t b) ∧
   (∀ i o, eB ti ops T c Ms rs = .idx i o → i ∈ rs ∧ ops[i]? = some o ∧ eA ops T o.guard = .go)
 | [] => ⟨fun _ _ _ h => z104, fun _ _ h => z104, fun _ _ h => z104, fun _ _ h => z104⟩
 | i :: r => by
   have ih := yO (ti := ti) (ops := ops) (T := T) (c := c) (Ms := Ms) r
   have up : (∀ j d s, eB ti ops T c Ms r = .pure j d s → j ∈ i :: r ∧ ∃ o, ops[j]? = some o ∧ eA ops T o.guard = .go ∧ rG ti T c Ms o.op = some s ∧ o.dst = d) ∧
       (∀ j d, eB ti ops T c Ms r = .skip j d → j ∈ i :: r ∧ ∃ o, ops[j]? = some o ∧ eA ops T o.guard = .no ∧ o.dst = d) ∧
       (∀ t b, eB ti ops T c Ms r = .split t b → ∃ o : Oper, eA ops T o.guard = .unk t b) ∧
       (∀ j o, eB ti ops T c Ms r = .idx j o → j ∈ i :: r ∧ ops[j]? = some o ∧ eA ops T o.guard = .go) :=
     ⟨fun j d s h => ⟨List.mem_cons_of_mem _ (ih.1 j d s h).1, (ih.1 j d s h).2⟩, fun j d h => ⟨List.mem_cons_of_mem _ (ih.2.1 j d h).1, (ih.2.1 j d h).2⟩, ih.2.2.1, fun j o h => ⟨List.mem_cons_of_mem _ (ih.2.2.2 j o h).1, (ih.2.2.2 j o h).2⟩⟩
   simp only [eB]
   cases ho : nth ops i with
   | none => exact up
   | some o =>
     rw [oN] at ho
     dsimp only
     cases hg : eA ops T o.guard with
     | go =>
       dsimp only
       cases hp : rG ti T c Ms o.op with
       | some s =>
         dsimp only
         refine ⟨fun j d s' h => ?_, fun _ _ h => z104, fun _ _ h => z104, fun _ _ h => z104⟩
         cases h
         exact ⟨by simp, o, ho, hg, hp, rfl⟩
       | none =>
         dsimp only
         cases hi : nT0 o.op with
         | true =>
           dsimp only
           refine ⟨fun _ _ _ h => z104, fun _ _ h => z104, fun _ _ h => z104, fun j o' h => ?_⟩
           cases h
           exact ⟨by simp, ho, hg⟩
         | false => dsimp only; exact up
     | no =>
       dsimp only
       refine ⟨fun _ _ _ h => z104, fun j d h => ?_, fun _ _ h => z104, fun _ _ h => z104⟩
       cases h
       exact ⟨by simp, o, ho, hg, rfl⟩
     | unk t b =>
       dsimp only
       refine ⟨fun _ _ _ h => z104, fun _ _ h => z104, fun t' b' h => ?_, fun _ _ h => z104⟩
       cases h
       exact ⟨o, hg⟩
     | bad => dsimp only; exact up
theorem iU (hti : ∀ t, bK E.P t (ti t)) {ops : List Oper} {A0 : Nat → Nat} {n0 : Nat} {B0 : List (Nat × TypeId × Nat)} {Ms : List ((Nat × Nat) × SV)} {Fs : List Fct} {K : St → Prop} {ws : World} (hs : WD E A0 n0 B0 Ms Fs ws) (hns : Region.noSelect ops.toArray = true) (hap : sQ ops.toArray = true) :
   ∀ (f : Nat) (L : List Bool) (T : List (Nat × SV)) (n c : Nat) (B : List (Nat × TypeId × Nat)) (M : List ((Nat × Nat) × SV)) (F : List Fct) (A : Nat → Nat) (a : Act) (w : World) (k : Nat),
     vcD E ti ops n0 B0 Ms Fs K f L (.mk T n c B M F) → InvD E A0 n0 B0 Ms Fs A n B M F w → (∀ w2, WD E A0 n0 B0 Ms Fs w2 → TD E A T n c a w2) → unl L ≤ k →
     wpAnyH E.P .any ops.toArray (rH E K) (fun w => WD E A0 n0 B0 Ms Fs w) k L.toArray a w
 | 0, _, _, _, _, _, _, _, _, _, _, _, hv, _, _, _ => (hv : False).elim
 | f + 1, L, T, n, c, B, M, F, A, a, w, k, hv, hI, hT, hk => by
   have hS := hI.start hs
   have hTw := hT w hS
   have hloc : ∀ w2, WD E A0 n0 B0 Ms Fs w2 → WD E A n0 B0 Ms Fs w2 := fun w2 h => h.agree (fun k hk => (hI.ag k hk).symm)
   have hQ : ∀ (c : List PanicEntry) (a1 a2 : Act) (w : World), rH E K (.panic c) a1 w → rH E K (.panic c) a2 w := fun _ _ _ _ h => h
   have hset : ∀ i, L.toArray.setIfInBounds i true = (rV L i).toArray := fun i => by rw [fW0]; simp
   have hunl : ∀ i, i ∈ iA L 0 ops L → unl (rV L i) + 1 = unl L := fun i hi => by
     have := gW0 (jK.1 hi)
     rw [hset] at this
     simpa using this
   obtain ⟨p1, p2, p3, p4⟩ := yO (ti := ti) (ops := ops) (T := T) (c := c) (Ms := Ms) (iA L 0 ops L)
   simp only [vcD] at hv
   split at hv
   · rename_i i d s hp
     obtain ⟨hmem, o, ho, hg, hpv, hod⟩ := p1 i d s hp
     have hu := hunl i hmem
     have hmem' := jK.1 hmem
     obtain ⟨k', rfl⟩ : ∃ k', k = k' + 1 := ⟨k - 1, by omega⟩
     have hval : ∀ w2, WD E A0 n0 B0 Ms Fs w2 → OKV E A n c w2 ((execOp a.eval o).run E.P w2) s := fun w2 h2 =>
       uY hti (fun k o v hv => by
         obtain ⟨_, g1, g2⟩ := (hloc w2 h2).mem k o v hv
         exact ⟨g1, SV.small_more g2 hI.hn⟩) (hT w2 h2) hpv
     have hy : YieldsIf E.P ops.toArray (fun w => WD E A0 n0 B0 Ms Fs w) o (s.den A) a := .inl ⟨rX hTw hg o rfl, fun w2 h2 => (hval w2 h2).1⟩
     refine wpAnyH_take (by simpa using ho) hns (nV hap hmem') (by simpa using hmem') (fun c a w h => h) hy hS ?_
     rw [hset]
     split at hv
     · rename_i d
       split at hv
       · rename_i hdn
         rw [hod]
         exact iU hti hs hns hap f _ _ n c B M F A _ w k' hv hI (fun w2 h2 => (hT w2 h2).put z90 (hval w2 h2).2) (by omega)
       · exact hv.elim
     · rw [hod]
       exact iU hti hs hns hap f _ _ n c B M F A _ w k' hv hI hT (by omega)
   · rename_i i d hp
     obtain ⟨hmem, o, ho, hg, hod⟩ := p2 i d hp
     have hu := hunl i hmem
     have hmem' := jK.1 hmem
     obtain ⟨k', rfl⟩ : ∃ k', k = k' + 1 := ⟨k - 1, by omega⟩
     have hy : YieldsIf E.P ops.toArray (fun w => WD E A0 n0 B0 Ms Fs w) o undef a := .inr ⟨dX0 hTw hg o rfl, rfl⟩
     refine wpAnyH_take (by simpa using ho) hns (nV hap hmem') (by simpa using hmem') (fun c a w h => h) hy hS ?_
     rw [hset]
     split at hv
     · rename_i d
       split at hv
       · rename_i hdn
         rw [hod]
         exact iU hti hs hns hap f _ _ n c B M F A _ w k' hv hI (fun w2 h2 => (hT w2 h2).put (v := .v undef) z90 trivial) (by omega)
       · exact hv.elim
     · rw [hod]
       exact iU hti hs hns hap f _ _ n c B M F A _ w k' hv hI hT (by omega)
   · rename_i t b hp
     obtain ⟨o, hg⟩ := p3 t b hp
     have hl := cA0 hTw hg
     cases b with
     | true => exact iU hti hs hns hap f _ _ n c B M F A _ w k (hv.t rfl) hI (fun w2 h2 => (hT w2 h2).lit hl) hk
     | false => exact iU hti hs hns hap f _ _ n c B M F A _ w k (hv.f rfl) hI (fun w2 h2 => (hT w2 h2).lit hl) hk
   · rename_i i o hp
     obtain ⟨hmem, ho, hg⟩ := p4 i o hp
     have hu := hunl i hmem
     have hmem' := jK.1 hmem
     obtain ⟨k', rfl⟩ : ∃ k', k = k' + 1 := ⟨k - 1, by omega⟩
     obtain ⟨s, h1, d, hd, hv⟩ := hv.out A
     have hy : YieldsIf E.P ops.toArray (fun w => WD E A0 n0 B0 Ms Fs w) o (s.den A) a := .inl ⟨rX hTw hg o rfl, fun w2 h2 => (h1 a w2 (hloc w2 h2) (hT w2 h2)).1⟩
     refine wpAnyH_take (by simpa using ho) hns (nV hap hmem') (by simpa using hmem') (fun c a w h => h) hy hS ?_
     rw [hd.1, hset]
     exact iU hti hs hns hap f _ _ n c B M F A _ w k' hv hI (fun w2 h2 => (hT w2 h2).put hd.lt (h1 a w2 (hloc w2 h2) (hT w2 h2)).2) (by omega)
   · split at hv
     · rename_i hr
       refine wpAnyH_done (List.eq_nil_iff_forall_not_mem.2 fun i hi => ?_) ⟨_, ⟨A, hI.hw, hTw⟩, hv⟩ k
       rw [← jK, hr] at hi
       cases hi
     · rename_i i0 r hr
       have hmem0 : i0 ∈ iA L 0 ops L := by rw [hr]; simp
       have hu := hunl i0 hmem0
       obtain ⟨k', rfl⟩ : ∃ k', k = k' + 1 := ⟨k - 1, by omega⟩
       refine wpAnyH_all rfl (fun e => by have := jK.1 hmem0; rw [e] at this; cases this) fun i hi => ?_
       have hmem := jK.2 hi
       have hvi := bZ0 hv i (by rw [← hr]; exact hmem)
       have hui := hunl i hmem
       cases ho : nth ops i with
       | none => rw [ho] at hvi; exact hvi.elim
       | some o =>
         rw [ho] at hvi
         simp only at hvi
         rw [oN] at ho
         split at hvi
         · rename_i hg
           unfold wpOp
           simp only [show ops.toArray[i]? = some o by simpa using ho, rX hTw hg o rfl, if_true]
           refine .inl (dW0 hti hvi hI hs hTw ?_)
           intro A' T' n' c' B' M' F' a' w' hI' hT' hn
           rw [hset]
           exact ⟨hI'.start hs, iU hti hs hns hap f _ _ n' c' B' M' F' A' a' w' k' hn hI' (fun w2 _ => hT' w2) (by omega)⟩
         · exact hvi.elim
def FK (F : List Fct) : List Nat → List Fct → Prop
 | [], [] => True
 | i :: ix, f :: r => F[i]? = some f ∧ FK F ix r
 | _, _ => False
theorem FK.fw {F : List Fct} : ∀ {ix : List Nat} {Fs : List Fct}, FK F ix Fs → FW F ix Fs
 | [], [], _ => trivial
 | [], _ :: _, h => h.elim
 | _ :: _, [], h => h.elim
 | _ :: _, _ :: _, h => ⟨.inl ⟨_, h.1, rfl⟩, FK.fw h.2⟩
theorem FK.keep {F : List Fct} : ∀ {ix : List Nat} {Fs : List Fct}, FK F ix Fs → kM Fs F
 | [], [], _ => fun f hf => by cases hf
 | [], _ :: _, h => h.elim
 | _ :: _, [], h => h.elim
 | _ :: _, _ :: _, h => fun f hf => by
   rcases List.mem_cons.1 hf with rfl | hf
   · exact List.mem_of_getElem? h.1
   · exact FK.keep h.2 f hf
theorem rL : ∀ n : Nat, unl (List.replicate n false) = n
 | 0 => rfl
 | n + 1 => by simp [List.replicate_succ, unl, rL n]
theorem aF {id : Nat} {ops : Array Oper} {T : List (Nat × SV)} {n c : Nat} {B : List (Nat × TypeId × Nat)} {M : List ((Nat × Nat) × SV)} {F : List Fct} {K : St → Prop} (hti : ∀ t, bK E.P t (ti t)) (hm : E.P.follows .mixedOrders = true) (hns : Region.noSelect ops = true) (hap : sQ ops = true)
   (fuel : Nat) (Ms : List ((Nat × Nat) × SV)) (ix : List Nat) (Fs : List Fct) (hM : MW M n Ms) (hMB : MBW B Ms) (hF : FK F ix Fs) (hix : kL ix = true)
   (hv : vcD E ti ops.toList n B Ms Fs K fuel (wT ops.toList) (.mk T n (c + 1) B M F)) :
   DrawW (∀ a w, Den E (.mk T n c B M F) a w → (Code.region id ops true).wp E.P (rH E K) a w) := by
 refine ⟨fun a w hd => ?_⟩
 obtain ⟨A, hW, hT⟩ := hd
 have hdr : Ext w { w with drawn := w.drawn + 1 } := ⟨rfl, rfl, rfl, Nat.le_refl _, fun _ _ _ => rfl⟩
 have hW' := hW.growExt hdr
 have hs : WD E A n B Ms Fs { w with drawn := w.drawn + 1 } := by
   have hp := hW'.pick ix hF.fw hix
   refine ⟨hp.key, hp.inj, fun k o v hv => ?_, hp.a0, hp.n0, hp.ext, hp.fct, hp.dj⟩
   obtain ⟨h1, h2⟩ := dT0 hM k o v hv
   exact ⟨aG0 hMB k o v hv, (hp.mem k o v h1).2.1, h2⟩
 refine wp_region_held (S := fun w => WD E A n B Ms Fs w) hm ?_
 have := iU hti (ops := ops.toList) (K := K) hs (by simpa using hns) (by simpa using hap) fuel (wT ops.toList) T n (c + 1) B M F A a { w with drawn := w.drawn + 1 } ops.size hv
   ⟨fun _ _ => rfl, Nat.le_refl _, fun _ h => h, fun k o v hv => (dT0 hM k o v hv).1, hF.keep, hW'⟩ (fun w2 _ => hT.step w2) (by simp [uI, rL])
 rw [Array.toArray_toList, uI] at this
 simp only [Array.length_toList, List.toArray_replicate] at this
 exact this
theorem pW {id : Nat} {ops : Array Oper} {s : St} {K : St → Prop} (Y : Type) (S : Y → St)
   (h1 : DrawW (∀ a w, Den E s a w → (Code.region id ops true).wp E.P (rH E (fun s' => ∃ y, Weak E s' (S y))) a w)) (h2 : ∀ y, K (S y)) :
   DrawW (∀ a w, Den E s a w → (Code.region id ops true).wp E.P (rH E K) a w) := by
 refine ⟨fun a w hd => Code.wp_mono (fun e a w h => ?_) (h1.out a w hd)⟩
 cases e with
 | normal =>
   obtain ⟨s', hs, y, hw⟩ := h
   exact ⟨S y, hw _ _ hs, h2 y⟩
 | _ => exact h
end
section
variable {E : Env} {ti : Nat → TI} {A : Nat → Nat} {T : List (Nat × SV)} {n c : Nat} {B : List (Nat × TypeId × Nat)} {M Ms : List ((Nat × Nat) × SV)} {F Fs : List Fct} {o : Oper} {next : St → Prop}
theorem oS {k : Call} (_hop : o.op = .call k) (_hk : k.callee = .builtin .append) (h : OpW (opD E o Ms Fs next T n c B M F)) : OpW (opD E o Ms Fs next T n c B M F) := h
theorem bN (R : Value → List Fct → Prop) {k : Call} {fo : Operand} {g : FuncId} {cap : List (Nat × Nat)} {l : List SV} {d : Nat} (hc : aD E.P g = true)
   (hop : o.op = .call k) (hk : k.callee = .value fo) (hf : bF T fo = some (.f g cap)) (ha : jB T k.args.toList = some l) (hd : Dst E o d)
   (hcall : ∀ A w, WD E A n B M F w → Calls E.P g ((l.map (SV.den A)) ++ cap.map (fun x => ptr A x.1 x.2)).toArray w (Ret w R))
   (hnext : ∀ v L, R v L → next (.mk ((d, .v v) :: T) n (c + 1) B M (L ++ F))) :
   OpW (opD E o Ms Fs next T n c B M F) := by
 refine ⟨opD0.up fun hkf A a w hW hT => ?_⟩
 have hargs : (k.args.map a.eval).toList = l.map (SV.den A) := by rw [Array.toList_map]; exact iP hT ha
 have hfv := (aI hT hf).1
 have hr : (execOp a.eval o).run E.P w = .ok (.enter g ((l.map (SV.den A)) ++ cap.map (fun x => ptr A x.1 x.2)).toArray) w := by
   have hcat : (k.args.map a.eval) ++ (cap.map (fun x => ptr A x.1 x.2)).toArray = ((l.map (SV.den A)) ++ cap.map (fun x => ptr A x.1 x.2)).toArray := by
     apply Array.ext'; rw [Array.toList_append, hargs]
   simp only [execOp, hop, resolve, hk, Sem.run_bind, hfv, SV.den, Deferred.ofValue, Sem.run_pure, Result.andThen_ok, Array.empty_append, invoke, hcat, kJ hc]
 unfold Oper.wp
 rw [hr, Oper.upon_enter]
 refine (hcall A w hW).mono ?_
 rintro e w' ⟨v, L, rfl, he, hL, hR⟩
 refine ⟨_, _, _, hW.learn he hL, fun w2 => ?_, fun f hf => List.mem_append_right _ (hkf f hf), hnext v L hR⟩
 rw [hd.1]
 exact (hT.step w2).put (v := .v v) hd.lt trivial
theorem bR {α : Type} {enc : α → List Value} {sz : Nat} (he : Enc enc sz) (k1 : Nat) {xs ys : List α} {i j : Sl} {k : Call} {t e : TypeId} {x y : Operand} {d : Nat} {agg : Bool} {size : Nat} {zero : List Value} {fs : List (Nat × Nat × Bool)} {ik : Option IntKind} {kk bytes : Nat} {agg2 : Bool} {zero2 : List Value} {fs2 : List (Nat × Nat × Bool)} {el2 : Option TypeId} {ik2 : Option IntKind} {kk2 bytes2 : Nat}
   (hti : ∀ t, bK E.P t (ti t)) (hop : o.op = .call k) (hk : k.callee = .builtin .append) (ha : k.args.toList = [x, y]) (hty : k.argTypes.toList = [t, t])
   (hx : bF T x = some (.v (i.val xs.length))) (hy : bF T y = some (.v (j.val ys.length)))
   (ht : ti t = .mk agg size zero fs (some e) ik kk bytes) (hte : ti e = .mk agg2 sz zero2 fs2 el2 ik2 kk2 bytes2) (hz2 : dG zero2 = sz) (hsz0 : 0 < sz) (hd : Dst E o d)
   (hF1 : F[k1]? = some (own i e enc sz xs)) (hF2 : ∀ w, (∀ f ∈ F, f.P w) → RdS w j sz (cells enc ys) ys.length)
   (hb : (xs.length + ys.length) * bytes2 ≤ 140737488355328) (hm : xs.length + ys.length ≤ maxLen)
   (hkeep : kM Fs F → kM Fs (F.eraseIdx k1)) (hnext : ∀ y : Sl, next (.mk ((d, .v (y.val (xs ++ ys).length)) :: T) n (c + 1) B M (own y e enc sz (xs ++ ys) :: F.eraseIdx k1))) :
   OpW (opD E o Ms Fs next T n c B M F) := by
 refine ⟨opD0.up fun hkf A a w hW hT => ?_⟩
 have htt := hti t
 rw [ht] at htt
 obtain ⟨ii, dd, z, e1, e2, e3, e4, e5, e6, e7, e8, e9, e10, e11⟩ := aS htt
 have htt2 := hti e
 rw [hte] at htt2
 obtain ⟨ii2, dd2, z2, g1, g2, g3, g4, g5, g6, g7, g8, g9, g10, g11⟩ := aS htt2
 have hdd := gD e8
 have hown := (hW.nth k1 hF1).1
 have hrd := hF2 w (fun f hf => (hW.fct f hf).1)
 have hz : z2.cells.size = sz := by rw [← hz2, dF, ← g6]; simp
 obtain ⟨y', w', h1, h2, h3, h4⟩ := aF0 (P := E.P) w o.type (by rw [e2, hdd]) g1 g5 g4 hz hsz0 hown hrd (uE he ys) (by rw [g11]; exact hb) hm
 have hr : (execOp a.eval o).run E.P w = .ok (.value (y'.val (xs.length + ys.length))) w' := by
   have hargs : k.args = #[x, y] := by apply Array.ext'; simpa using ha
   have htys : k.argTypes = #[t, t] := by apply Array.ext'; simpa using hty
   have hx' : a.eval x = i.val xs.length := (aI hT hx).1
   have hy' : a.eval y = j.val ys.length := (aI hT hy).1
   simp only [execOp, hop, resolve, hk, hargs, htys, Sem.run_bind, Sem.run_pure, Result.andThen_ok, invoke, builtin, List.map_toArray, List.map_cons, List.map_nil, hx', hy', h1]
 refine aW hr ?_
 rw [hd.1]
 have hn := hnext y'
 rw [List.length_append] at hn
 refine ⟨_, _, _, ?_, fun w2 => (hT.step w2).put (v := .v (y'.val (xs.length + ys.length))) hd.lt trivial, fun f hf => List.mem_cons_of_mem _ (hkeep hkf f hf), hn⟩
 have := hW.turn hF1 h3 (ds := cells enc xs ++ cells enc ys) h2 h4
 rw [← mC] at this
 show WD E A n B M (kC false y' e sz (cells enc (xs ++ ys)) (xs ++ ys).length :: F.eraseIdx k1) w'
 rw [List.length_append]
 exact this
theorem mQ {α : Type} {enc : α → List Value} {sz : Nat} (he : Enc enc sz) {k1 : Nat} {xs ys : List α} {i j : Sl} {k : Call} {t e : TypeId} {x y : Operand} {d : Nat} {agg : Bool} {size : Nat} {zero : List Value} {fs : List (Nat × Nat × Bool)} {ik : Option IntKind} {kk bytes : Nat} {agg2 : Bool} {zero2 : List Value} {fs2 : List (Nat × Nat × Bool)} {el2 : Option TypeId} {ik2 : Option IntKind} {kk2 bytes2 : Nat}
   (hti : ∀ t, bK E.P t (ti t)) (hop : o.op = .call k) (hk : k.callee = .builtin .append) (ha : k.args.toList = [x, y]) (hty : k.argTypes.toList = [t, t])
   (hx : bF T x = some (.v (i.val xs.length))) (hy : bF T y = some (.v (j.val ys.length)))
   (ht : ti t = .mk agg size zero fs (some e) ik kk bytes) (hte : ti e = .mk agg2 sz zero2 fs2 el2 ik2 kk2 bytes2) (hz2 : dG zero2 = sz) (hsz0 : 0 < sz) (hd : Dst E o d)
   (hF1 : IsAt F k1 (own i e enc sz xs)) (hF2 : ∀ w, (∀ f ∈ F, f.P w) → RdS w j sz (cells enc ys) ys.length)
   (hb : (xs.length + ys.length) * bytes2 ≤ 140737488355328) (hm : xs.length + ys.length ≤ maxLen)
   (hkeep : kM Fs F → kM Fs (F.eraseIdx k1)) (hnext : ∀ y : Sl, next (.mk ((d, .v (y.val (xs ++ ys).length)) :: T) n (c + 1) B M (own y e enc sz (xs ++ ys) :: F.eraseIdx k1))) :
   OpW (opD E o Ms Fs next T n c B M F) :=
 bR he k1 hti hop hk ha hty hx hy ht hte hz2 hsz0 hd hF1.h hF2 hb hm hkeep hnext
theorem bO {α : Type} {enc : α → List Value} {sz : Nat} (he : Enc enc sz) {t e : TypeId} {x ix : Operand} {i : Sl} {xs : List α} {kd : IntKind} {m : Int} {d : Nat} {agg : Bool} {size : Nat} {zero : List Value} {fs : List (Nat × Nat × Bool)} {ik : Option IntKind} {kk bytes : Nat} {agg2 : Bool} {zero2 : List Value} {fs2 : List (Nat × Nat × Bool)} {el2 : Option TypeId} {ik2 : Option IntKind} {kk2 bytes2 : Nat}
   (hti : ∀ t, bK E.P t (ti t)) (hop : o.op = .indexAddr t x ix) (hx : bF T x = some (.v (i.val xs.length))) (hix : bF T ix = some (.v (.int kd m)))
   (ht : ti t = .mk agg size zero fs (some e) ik kk bytes) (hte : ti e = .mk agg2 sz zero2 fs2 el2 ik2 kk2 bytes2) (hd : Dst E o d)
   (hF : ∀ w, (∀ f ∈ Fs, f.P w) → RdS w i sz (cells enc xs) xs.length) (j : Nat) (hj : m = (j : Int)) (hlt : j < xs.length) {n0 : Nat} {B0 : List (Nat × TypeId × Nat)}
   (hnext : ∀ ad : Addr, next (.mk ((d, .e c ad (enc xs[j]) 0) :: T) n c B M F)) :
   OpW (∀ A, ∃ s : SV, (∀ a w, WD E A n0 B0 Ms Fs w → TD E A T n c a w → (execOp a.eval o).run E.P w = .ok (.value (s.den A)) w ∧ s.okT n c w) ∧ (∃ d, Dst E o d ∧ next (.mk ((d, s) :: T) n c B M F))) := by
 refine ⟨fun A => ?_⟩
 by_cases hex : ∃ ad, i.a = some ad
 · obtain ⟨ad, had⟩ := hex
   refine ⟨.e c (ad.add (j * sz)) (enc xs[j]) 0, fun a w hW hT => ?_, d, hd, hnext _⟩
   obtain ⟨h1, h2, h3, h4⟩ := hF w (fun f hf => (hW.fct f hf).1)
   obtain ⟨ad', had', hcs⟩ := h4 (by omega)
   rw [had] at had'
   injection had' with had'
   subst had'
   have htt := hti t
   rw [ht] at htt
   obtain ⟨ii, dd, z, e1, e2, e3, e4, e5, e6, e7, e8, e9, e10, e11⟩ := aS htt
   have htt2 := hti e
   rw [hte] at htt2
   obtain ⟨ii2, dd2, z2, k1, k2, k3, k4, k5, k6, k7, k8, k9, k10, k11⟩ := aS htt2
   have hdd := gD e8
   subst hj
   refine ⟨?_, Nat.le_refl _, fun _ q u hu => by
     rw [iQ]
     exact hcs _ u (pR he hlt hu)⟩
   have hx' : a.eval x = .slice (some ad) xs.length i.c := by rw [(aI hT hx).1]; simp [SV.den, Sl.val, had]
   have hix' : a.eval ix = .int kd j := (aI hT hix).1
   simp [execOp, hop, Instr.indexAt, hx', hix', asIntOf, underlying, e2, hdd, dE k1, k4, hlt, SV.den]
   simp [Addr.add]
 · refine ⟨.e c ⟨0, 0, none⟩ (enc xs[j]) 0, fun a w hW hT => ?_, d, hd, hnext _⟩
   obtain ⟨h1, h2, h3, h4⟩ := hF w (fun f hf => (hW.fct f hf).1)
   obtain ⟨ad', had', hcs⟩ := h4 (by omega)
   exact absurd ⟨ad', had'⟩ hex
end
end Go.Sx
namespace Go.Proofs.YtijmjecehppbfaaGreat
set_option maxRecDepth 100000
set_option maxHeartbeats 100000000
open Go Go.Sx Go.RowKit
def aZ (t : Int) : Bool := decide (0 ≤ t) && decide (t < 6)
def aV (t : Int) : Bool := decide (0 ≤ t) && decide (t ≤ 99)
structure Letter where
 t : Int
 v : Int
 deriving DecidableEq
def fX (l : Letter) : List Value := [.int .i64 l.t, .int .i64 l.v]
theorem gR : Enc fX 2 := ⟨fun _ => rfl, fun _ u hu => by simp [fX] at hu; rcases hu with rfl | rfl <;> rfl⟩
structure Chan where
 room : Int
 items : List Int
 senders : List Letter
 getters : List Int
 closed : Bool
 deriving DecidableEq
def iZ (m : Chan) (i s g : Sl) : Value := .agg #[.int .i64 m.room, i.val m.items.length, s.val m.senders.length, g.val m.getters.length, .bool m.closed]
def Chan.small (m : Chan) : Prop := m.items.length ≤ 4294967296 ∧ m.senders.length ≤ 4294967296 ∧ m.getters.length ≤ 4294967296
def Chan.threads (m : Chan) : List Int := m.senders.map (·.t) ++ m.getters
theorem gS (t : Int) (w : World) : Calls Tryz.prog 129 #[.int .i64 t] w (Ret w fun v L => v = .bool (aZ t) ∧ L = []) := by
 refine bZ Tryz.func129 rfl aA w _ rfl _ rfl [] trivial trivial _ (by decide) ?_
 refine CaseB.mk (fun h => ?_) (fun h => ?_)
 all_goals
   refine aH ⟨?_, rfl⟩ (fun _ => rfl)
   simp [aZ] at h ⊢
   omega
theorem gE (t : Int) (w : World) : Calls Tryz.prog 124 #[.int .i64 t] w (Ret w fun v L => v = .bool (aV t) ∧ L = []) := by
 refine bZ Tryz.func124 rfl aA w _ rfl _ rfl [] trivial trivial _ (by decide) ?_
 refine CaseB.mk (fun h => ?_) (fun h => ?_)
 all_goals
   refine aH ⟨?_, rfl⟩ (fun _ => rfl)
   simp [aV] at h ⊢
   omega
theorem cE (i : Sl) (xs : List Int) (w : World) (h : At w [slo i aJ 1 xs]) (hb : xs.length ≤ 4294967296) : Calls Tryz.prog 105 #[i.val xs.length] w (Ret w fun v L => ∃ y : Sl, v = y.val xs.length ∧ L = [own y 3 aJ 1 xs]) := by
 refine bZ Tryz.func105 rfl aA w _ rfl _ rfl _ h ⟨rfl, rfl, trivial⟩ _ (by decide) ?_
 refine oA aE aA rfl rfl rfl rfl rfl rfl rfl rfl rfl (by decide) ⟨rfl, rfl⟩ z35 z43 z43 (fun y => ?_)
 exact bG [0] ⟨y, rfl, rfl⟩ z144 rfl ⟨rfl, trivial⟩ (fun _ => rfl)
theorem mD (m : Chan) (i s g : Sl) (w : World) (h : At w [slo i aJ 1 m.items, slo s fX 2 m.senders, slo g aJ 1 m.getters]) (hb : m.small) :
   Calls Tryz.prog 128 #[iZ m i s g] w (Ret w fun v L => ∃ i' s' g' : Sl, v = iZ m i' s' g' ∧ L = [own i' 3 aJ 1 m.items, own s' 187 fX 2 m.senders, own g' 3 aJ 1 m.getters]) := by
 obtain ⟨b1, b2, b3⟩ := hb
 refine bZ Tryz.func128 rfl aA w _ rfl _ rfl _ h z140 _ (by decide) ?_
 refine aB _ iF rfl rfl rfl rfl ⟨rfl, rfl⟩ (fun A w hW => cE i m.items w ⟨z34, trivial⟩ b1) ?_
 rintro v L ⟨y1, rfl, rfl⟩
 refine oA gR aA rfl rfl rfl rfl rfl rfl rfl rfl rfl (by decide) ⟨rfl, rfl⟩ z35 z43 z43 (fun y2 => ?_)
 refine aB _ iF rfl rfl rfl rfl ⟨rfl, rfl⟩ (fun A w hW => cE g m.getters w ⟨z34, trivial⟩ b3) ?_
 rintro v L ⟨y3, rfl, rfl⟩
 exact bG [2, 1, 0] ⟨y1, y2, y3, rfl, rfl⟩ z128 rfl ⟨rfl, rfl, rfl, trivial⟩ (fun _ => rfl)
theorem lK (k n : Nat) (h : k < n) (hn : n ≤ 4294967296) : IntKind.i64.wrap ((k : Int) + 1) = ((k + 1 : Nat) : Int) := by
 rw [IntKind.wrap_i64]; omega
theorem uJ (m : Chan) (i s g : Sl) (w : World) (h : At w [slo i aJ 1 m.items, slo s fX 2 m.senders, slo g aJ 1 m.getters]) (hb : m.small) :
   Calls Tryz.prog 132 #[iZ m i s g] w (Ret w fun v L => ∃ y : Sl, v = y.val m.threads.length ∧ L = [own y 3 aJ 1 m.threads]) := by
 obtain ⟨b1, b2, b3⟩ := hb
 refine bZ Tryz.func132 rfl aA w _ rfl _ rfl _ h z140 _ (by decide) ?_
 refine LoopW.mk ⟨{ p : Nat × Sl // p.1 ≤ m.senders.length },
   fun p => .mk [(1, .p 0 0), (3, .v (p.1.2.val ((m.senders.take p.1.1).map Letter.t).length)), (7, .v (s.val m.senders.length)), (8, .v (.int .i64 m.senders.length)), (9, .v (.int .i64 p.1.1))] 1 0 [(0, 119, 5)] [((0, 3), .v (g.val m.getters.length))] [own p.1.2 3 aJ 1 ((m.senders.take p.1.1).map Letter.t), slo s fX 2 m.senders, slo g aJ 1 m.getters],
   fun p => m.senders.length - p.1.1, ⟨(0, ⟨none, 0⟩), Nat.zero_le _⟩, ?_, ?_⟩
 · exact aC [99, 1, 2] zw2 zw0 zw2 zw5 zw4 rfl rfl
 · rintro ⟨⟨k, out⟩, hk⟩
   simp only at hk
   refine CaseB.mk (fun h => ?_) (fun h => ?_)
   · have hlt : k < m.senders.length := by simpa using h
     have hT : (m.senders.take (k + 1)).map Letter.t = (m.senders.take k).map Letter.t ++ [m.senders[k].t] := by
       rw [List.take_succ_eq_append_getElem hlt, List.map_append]; rfl
     refine aG gR aA rfl rfl rfl rfl rfl ⟨rfl, rfl⟩ z35 k rfl z43 (fun ad => ?_)
     refine AllSl.mk fun y => ?_
     refine bQ aE 1 aA (ys := [m.senders[k].t]) rfl rfl rfl rfl rfl rfl rfl rfl rfl (by decide) ⟨rfl, rfl⟩ rfl z35 z43 z43 (fun z => ?_)
     refine ⟨⟨(k + 1, z), by omega⟩, ?_, by simp; omega⟩
     have hw := lK k _ hlt b2
     exact aC [0, 2, 3] zw9 zw0 zw9 zw5 zw24 rfl rfl
   · have hge : m.senders.length ≤ k := by simpa using h
     have hT : (m.senders.take k).map Letter.t = m.senders.map Letter.t := by rw [List.take_of_length_le hge]
     refine cD aE aA  rfl rfl rfl rfl rfl rfl rfl rfl rfl (by decide) ⟨rfl, rfl⟩ z39 z35 z43 z43 (fun z => ?_)
     exact bG [0] ⟨z, rfl, rfl⟩ ⟨.inl ⟨_, rfl, (by first | rfl | ((simp only [hT, Chan.threads])))⟩, trivial⟩ rfl ⟨rfl, trivial⟩ (fun _ => (by first | rfl | ((simp only [hT, Chan.threads, gZ, SV.den]))))
theorem eO {α : Type} {xs ys : List α} {k : Nat} (h : xs.take k = ys.take k) (hx : k < xs.length) (hy : k < ys.length) : (xs[k] = ys[k] → xs.take (k + 1) = ys.take (k + 1)) ∧ (xs[k] ≠ ys[k] → xs ≠ ys) := by
 refine ⟨fun e => by rw [List.take_succ_eq_append_getElem hx, List.take_succ_eq_append_getElem hy, h, e], fun e he => ?_⟩
 subst he
 exact e rfl
theorem lL (i j : Sl) (xs ys : List Int) (w : World) (h : At w [slo i aJ 1 xs, slo j aJ 1 ys]) (hb : xs.length ≤ 4294967296) (hb2 : ys.length ≤ 4294967296) :
   Calls Tryz.prog 84 #[i.val xs.length, j.val ys.length] w (Ret w fun v L => v = .bool (decide (xs = ys)) ∧ L = []) := by
 refine cB Tryz.func84 rfl aA w _ rfl _ rfl _ h ⟨rfl, rfl, rfl, rfl, trivial⟩ _ _ (by decide) ?_
 refine CaseB.mk (fun h => ?_) (fun h => ?_)
 · have hne : xs ≠ ys := by rintro rfl; simp at h
   refine aH ⟨?_, rfl⟩ (fun _ => rfl)
   simp [hne]
 · have hl : xs.length = ys.length := by simp at h; omega
   refine LoopW.mk ⟨{ k : Nat // k ≤ xs.length ∧ xs.take k = ys.take k },
     fun p => .mk [(0, .v (i.val xs.length)), (1, .v (j.val ys.length)), (12, .v (.int .i64 xs.length)), (13, .v (.int .i64 p.1))] 0 0 [] [] [slo i aJ 1 xs, slo j aJ 1 ys],
     fun p => xs.length - p.1, ⟨0, Nat.zero_le _, rfl⟩, ?_, ?_⟩
   · exact aC [0, 1] zw2 zw0 zw2 zw5 zw4 rfl rfl
   · rintro ⟨k, hk, he⟩
     refine CaseB.mk (fun h => ?_) (fun h => ?_)
     · have hlt : k < xs.length := by simpa using h
       have hlt2 : k < ys.length := by omega
       obtain ⟨q1, q2⟩ := eO he hlt hlt2
       refine aF aA z102 z102 z102 200 [] [0, 1] [_, _] trivial trivial ⟨rfl, rfl, trivial⟩ rfl ?_
       refine bO (ti := aU tab) aE aA rfl rfl rfl rfl rfl ⟨rfl, rfl⟩ z35 k rfl z43 (fun ad => ?_)
       refine bO (ti := aU tab) aE aA rfl rfl rfl rfl rfl ⟨rfl, rfl⟩ z35 k rfl z43 (fun ad2 => ?_)
       refine CaseB.mk (fun h => ?_) (fun h => ?_)
       · have hne := q2 z95
         refine aH ⟨?_, rfl⟩ (fun _ => rfl)
         simp [hne]
       · have heq := q1 z95
         have hw := lK k _ hlt hb
         refine ⟨⟨k + 1, by omega, heq⟩, ?_, by simp; omega⟩
         exact aC [0, 1] zw1 zw0 zw1 zw5 zw3 rfl rfl
     · have hge : xs.length ≤ k := by simpa using h
       have heq : xs = ys := by rw [List.take_of_length_le hge, List.take_of_length_le (by omega)] at he; exact he
       refine aH ⟨?_, rfl⟩ (fun _ => rfl)
       simp [heq]
end Go.Proofs.YtijmjecehppbfaaGreat
namespace Go.Sx
set_option maxRecDepth 100000
set_option maxHeartbeats 100000000
open Go Go.RowKit
def Sl.cut (i : Sl) (l sz : Nat) : Sl := ⟨if i.c = l then i.a else i.a.map (·.add (l * sz)), i.c - l⟩
theorem RdS.cut {w : World} {i : Sl} {sz n l h : Nat} {cs : List Value} (hr : RdS w i sz cs n) (h1 : l ≤ h) (h2 : h ≤ n) : RdS w (i.cut l sz) sz ((cs.drop (l * sz)).take ((h - l) * sz)) (h - l) := by
 obtain ⟨g1, g2, g3, g4⟩ := hr
 have e1 : (h - l) * sz ≤ n * sz - l * sz := by rw [← Nat.sub_mul]; exact Nat.mul_le_mul_right _ (by omega)
 refine ⟨by rw [List.length_take, List.length_drop, g1]; omega, by simp only [Sl.cut]; omega, by simp only [Sl.cut]; omega, fun h0 => ?_⟩
 obtain ⟨ad, had, hc⟩ := g4 (by omega)
 refine ⟨ad.add (l * sz), by simp only [Sl.cut]; rw [if_neg (by omega), had]; rfl, fun j u hu => ?_⟩
 rw [iQ]
 refine hc _ u ?_
 rw [List.getElem?_take] at hu
 split at hu
 · rw [List.getElem?_drop] at hu; exact hu
 · cases hu
theorem jK0 {i : Sl} {l sz n m b : Nat} (h : m ≤ n) (hf : (fSl true (i.cut l sz) sz [] m).foot b) : (fSl true i sz [] n).foot b := by
 obtain ⟨h0, ad, had, rfl⟩ := hf
 refine ⟨by omega, ?_⟩
 simp only [Sl.cut] at had
 split at had
 · exact ⟨ad, had, rfl⟩
 · cases hi : i.a with
   | none => rw [hi] at had; simp at had
   | some a0 => rw [hi] at had; simp at had; exact ⟨a0, rfl, by rw [← had, uC]⟩
section
variable {α : Type} {enc : α → List Value} {sz : Nat}
theorem yP (he : Enc enc sz) (xs : List α) (l h : Nat) : (((cells enc xs).drop (l * sz)).take ((h - l) * sz)) = cells enc ((xs.drop l).take (h - l)) := by
 rw [wN he, rS he]
theorem rdCut (he : Enc enc sz) {F : List Fct} {i : Sl} {xs : List α} (l h : Nat) (h1 : l ≤ h) (h2 : h ≤ xs.length) {ys : List α} (hy : ys = (xs.drop l).take (h - l)) (hr : ∀ w, (∀ f ∈ F, f.P w) → RdS w i sz (cells enc xs) xs.length) :
   ∀ w, (∀ f ∈ F, f.P w) → RdS w (i.cut l sz) sz (cells enc ys) ys.length := by
 intro w hw
 have := (hr w hw).cut h1 h2
 rw [yP he] at this
 subst hy
 rw [show ((xs.drop l).take (h - l)).length = h - l by simp; omega]
 exact this
theorem cB0 (he : Enc enc sz) {w : World} {Q : Nat → Prop} {o : Bool} {i : Sl} {xs : List α} (l h : Nat) (h1 : l ≤ h) (h2 : h ≤ xs.length) {ys : List α} (hy : ys = (xs.drop l).take (h - l))
   (hr : (fSl o i sz (cells enc xs) xs.length).P w ∧ ∀ b, (fSl o i sz (cells enc xs) xs.length).foot b → Q b) :
   (fSl o (i.cut l sz) sz (cells enc ys) ys.length).P w ∧ ∀ b, (fSl o (i.cut l sz) sz (cells enc ys) ys.length).foot b → Q b := by
 have := (show RdS w i sz (cells enc xs) xs.length from hr.1).cut h1 h2
 rw [yP he] at this
 subst hy
 have hl : ((xs.drop l).take (h - l)).length = h - l := by simp; omega
 refine ⟨?_, fun b hb => hr.2 b ?_⟩
 · show RdS w (i.cut l sz) sz _ _
   rw [hl]
   exact this
 · exact jK0 (m := ((xs.drop l).take (h - l)).length) (n := xs.length) (by rw [hl]; omega) hb
theorem uK (he : Enc enc sz) {F : List Fct} {i : Sl} {xs : List α} (l : Nat) (h : l ≤ xs.length) (hr : ∀ w, (∀ f ∈ F, f.P w) → RdS w i sz (cells enc xs) xs.length) :
   ∀ w, (∀ f ∈ F, f.P w) → RdS w (i.cut l sz) sz (cells enc (xs.drop l)) (xs.drop l).length :=
 rdCut he l xs.length h (Nat.le_refl _) (by rw [List.take_of_length_le (by simp)]) hr
theorem aJ0 (he : Enc enc sz) {w : World} {Q : Nat → Prop} {o : Bool} {i : Sl} {xs : List α} (l : Nat) (h : l ≤ xs.length)
   (hr : (fSl o i sz (cells enc xs) xs.length).P w ∧ ∀ b, (fSl o i sz (cells enc xs) xs.length).foot b → Q b) :
   (fSl o (i.cut l sz) sz (cells enc (xs.drop l)) (xs.drop l).length).P w ∧ ∀ b, (fSl o (i.cut l sz) sz (cells enc (xs.drop l)) (xs.drop l).length).foot b → Q b :=
 cB0 he l xs.length h (Nat.le_refl _) (by rw [List.take_of_length_le (by simp)]) hr
end
def rC (T : List (Nat × SV)) (d : Int) : Option Operand → Option Int
 | none => some d
 | some y => match bF T y with
   | some (.v (.int _ m)) => some m
   | _ => none
section
variable {E : Env} {ti : Nat → TI} {A : Nat → Nat} {T : List (Nat × SV)} {n c : Nat} {B : List (Nat × TypeId × Nat)} {M : List ((Nat × Nat) × SV)} {F Fs : List Fct} {o : Oper} {next : St → Prop} {a : Act} {w : World}
theorem qS (hT : TD E A T n c a w) {d : Int} {y : Operand} {m : Int} (h : rC T d (some y) = some m) : ∃ kd, a.eval y = .int kd m := by
 simp only [rC] at h
 split at h
 · rename_i k q hq
   simp at h; subst h
   exact ⟨k, (aI hT hq).1⟩
 · cases h
theorem mE0 {P : Program} {t e : TypeId} {ie : TypeInfo} (ht : P.underlying t = some (.slice e)) (hi : P.info? e = some ie) (i : Sl) (k l h : Nat) (lo hi' : Option Value) (hlo : (lo = none ∧ l = 0) ∨ ∃ kd, lo = some (.int kd (l : Int))) (hhi : (hi' = none ∧ h = k) ∨ ∃ kd, hi' = some (.int kd (h : Int))) (h1 : l ≤ h) (h2 : h ≤ k) (h3 : k ≤ i.c) :
   (Instr.sliceAt t (i.val k) lo hi' none).run P w = .ok ((i.cut l ie.size).val (h - l)) w := by
 rcases hlo with ⟨rfl, rfl⟩ | ⟨kd, rfl⟩ <;> rcases hhi with ⟨rfl, rfl⟩ | ⟨kd2, rfl⟩ <;>
   simp [Instr.sliceAt, Instr.slice, underlying, ht, Sl.val, Instr.sliceBounds, run_sliceBound, dE hi, Sl.cut, h1, show h ≤ i.c by omega]
theorem fY0 (hti : ∀ t, bK E.P t (ti t)) (hT : TD E A T n c a w) {t e : TypeId} {x : Operand} {lo hi : Option Operand} {i : Sl} {k : Nat} {ml mh : Int} {sz : Nat} {agg : Bool} {size : Nat} {zero : List Value} {fs : List (Nat × Nat × Bool)} {ik : Option IntKind} {kk bytes : Nat} {agg2 : Bool} {zero2 : List Value} {fs2 : List (Nat × Nat × Bool)} {el2 : Option TypeId} {ik2 : Option IntKind} {kk2 bytes2 : Nat}
   (hop : o.op = .slice t x lo hi none) (hx : bF T x = some (.v (i.val k)))
   (ht : ti t = .mk agg size zero fs (some e) ik kk bytes) (hte : ti e = .mk agg2 sz zero2 fs2 el2 ik2 kk2 bytes2)
   (hlo : rC T 0 lo = some ml) (hhi : rC T (k : Int) hi = some mh) {l h : Nat} (el : ml = (l : Int)) (eh : mh = (h : Int)) (h1 : l ≤ h) (h2 : h ≤ k) (h3 : k ≤ i.c) :
   (execOp a.eval o).run E.P w = .ok (.value ((i.cut l sz).val (h - l))) w := by
 have htt := hti t
 rw [ht] at htt
 obtain ⟨ii, dd, z, e1, e2, e3, e4, e5, e6, e7, e8, e9, e10, e11⟩ := aS htt
 have htt2 := hti e
 rw [hte] at htt2
 obtain ⟨ii2, dd2, z2, k1, k2, k3, k4, k5, k6, k7, k8, k9, k10, k11⟩ := aS htt2
 have hdd := gD e8
 subst el; subst eh
 have hx' : a.eval x = i.val k := (aI hT hx).1
 have := mE0 (P := E.P) (w := w) (by rw [e2, hdd]) k1 i k l h (lo.map a.eval) (hi.map a.eval) (by
   cases lo with
   | none => simp only [rC, Option.some.injEq] at hlo; exact .inl ⟨rfl, by omega⟩
   | some y => obtain ⟨kd, e⟩ := qS hT hlo; exact .inr ⟨kd, by simp [e]⟩) (by
   cases hi with
   | none => simp only [rC, Option.some.injEq] at hhi; exact .inl ⟨rfl, by omega⟩
   | some y => obtain ⟨kd, e⟩ := qS hT hhi; exact .inr ⟨kd, by simp [e]⟩) h1 h2 h3
 rw [k4] at this
 simp only [execOp, hop, hx', Option.map_none, this, Sem.run_bind, Sem.run_pure, Result.andThen_ok]
theorem iG {t e : TypeId} {x : Operand} {lo hi : Option Operand} {i : Sl} {k : Nat} {ml mh : Int} {sz : Nat} {d : Nat} {cs : List Value} {agg : Bool} {size : Nat} {zero : List Value} {fs : List (Nat × Nat × Bool)} {ik : Option IntKind} {kk bytes : Nat} {agg2 : Bool} {zero2 : List Value} {fs2 : List (Nat × Nat × Bool)} {el2 : Option TypeId} {ik2 : Option IntKind} {kk2 bytes2 : Nat}
   (hti : ∀ t, bK E.P t (ti t)) (hop : o.op = .slice t x lo hi none) (hx : bF T x = some (.v (i.val k)))
   (ht : ti t = .mk agg size zero fs (some e) ik kk bytes) (hte : ti e = .mk agg2 sz zero2 fs2 el2 ik2 kk2 bytes2) (hd : Dst E o d)
   (hlo : rC T 0 lo = some ml) (hhi : rC T (k : Int) hi = some mh) (hF : ∀ w, (∀ f ∈ F, f.P w) → RdS w i sz cs k)
   (l h m : Nat) (el : ml = (l : Int)) (eh : mh = (h : Int)) (h1 : l ≤ h) (h2 : h ≤ k) (hm : m = h - l)
   (hnext : next (.mk ((d, .v ((i.cut l sz).val m)) :: T) n c B M F)) :
   OpW (dI E o next T n c B M F) := by
 refine ⟨fun A a w hW hT => ?_⟩
 obtain ⟨_, g2, _, _⟩ := hF w (fun f hf => (hW.fct f hf).1)
 subst hm
 refine aW (fY0 hti hT hop hx ht hte hlo hhi el eh h1 h2 g2) ?_
 rw [hd.1]
 exact ⟨_, ⟨_, hW, hT.put (v := .v ((i.cut l sz).val (h - l))) hd.lt trivial⟩, hnext⟩
theorem jL0 {t e : TypeId} {x : Operand} {lo hi : Option Operand} {i : Sl} {k : Nat} {ml mh : Int} {sz : Nat} {d : Nat} {cs : List Value} {agg : Bool} {size : Nat} {zero : List Value} {fs : List (Nat × Nat × Bool)} {ik : Option IntKind} {kk bytes : Nat} {agg2 : Bool} {zero2 : List Value} {fs2 : List (Nat × Nat × Bool)} {el2 : Option TypeId} {ik2 : Option IntKind} {kk2 bytes2 : Nat}
   (hti : ∀ t, bK E.P t (ti t)) (hop : o.op = .slice t x lo hi none) (hx : bF T x = some (.v (i.val k)))
   (ht : ti t = .mk agg size zero fs (some e) ik kk bytes) (hte : ti e = .mk agg2 sz zero2 fs2 el2 ik2 kk2 bytes2) (hd : Dst E o d)
   (hlo : rC T 0 lo = some ml) (hhi : rC T (k : Int) hi = some mh) (hF : ∀ w, (∀ f ∈ Fs, f.P w) → RdS w i sz cs k)
   (l h m : Nat) (el : ml = (l : Int)) (eh : mh = (h : Int)) (h1 : l ≤ h) (h2 : h ≤ k) (hm : m = h - l) {n0 : Nat} {B0 : List (Nat × TypeId × Nat)} {Ms : List ((Nat × Nat) × SV)}
   (hnext : next (.mk ((d, .v ((i.cut l sz).val m)) :: T) n c B M F)) :
   OpW (∀ A, ∃ s : SV, (∀ a w, WD E A n0 B0 Ms Fs w → TD E A T n c a w → (execOp a.eval o).run E.P w = .ok (.value (s.den A)) w ∧ s.okT n c w) ∧ (∃ d, Dst E o d ∧ next (.mk ((d, s) :: T) n c B M F))) := by
 refine ⟨fun A => ⟨.v ((i.cut l sz).val m), fun a w hW hT => ?_, d, hd, hnext⟩⟩
 obtain ⟨_, g2, _, _⟩ := hF w (fun f hf => (hW.fct f hf).1)
 subst hm
 exact ⟨fY0 hti hT hop hx ht hte hlo hhi el eh h1 h2 g2, trivial⟩
theorem fZ0 (hT : TD E A T n c a w) {op : BinOp} {t t' : TypeId} {x y : Operand} {u v r : Value} (hop : o.op = .binOp op t x y t') (hx : mN T x = some u) (hy : mN T y = some v)
   (hg : (eqGuard op t x y u v).run E.P w = .ok () w) (hb : (binOp op t u v).run E.P w = .ok r w) : (execOp a.eval o).run E.P w = .ok (.value r) w := by
 simp only [execOp, hop, jW hT hx, jW hT hy, Sem.run_bind, hg, Result.andThen_ok, hb, Sem.run_pure]
theorem cM {op : BinOp} {t t' : TypeId} {x y : Operand} {u v : Value} {d : Nat} (hop : o.op = .binOp op t x y t') (hx : mN T x = some u) (hy : mN T y = some v) (hd : Dst E o d) (r : Value)
   (hg : ∀ w, (eqGuard op t x y u v).run E.P w = .ok () w) (hb : ∀ w, (binOp op t u v).run E.P w = .ok r w) (hnext : next (.mk ((d, .v r) :: T) n c B M F)) :
   OpW (dI E o next T n c B M F) := by
 refine ⟨fun A a w hW hT => ?_⟩
 refine aW (fZ0 hT hop hx hy (hg w) (hb w)) ?_
 rw [hd.1]
 exact ⟨_, ⟨_, hW, hT.put (v := .v r) hd.lt trivial⟩, hnext⟩
theorem kT {op : BinOp} {t t' : TypeId} {x y : Operand} {u v : Value} {d : Nat} (hop : o.op = .binOp op t x y t') (hx : mN T x = some u) (hy : mN T y = some v) (hd : Dst E o d) (r : Value)
   (hg : ∀ w, (eqGuard op t x y u v).run E.P w = .ok () w) (hb : ∀ w, (binOp op t u v).run E.P w = .ok r w) {n0 : Nat} {B0 : List (Nat × TypeId × Nat)} {Ms : List ((Nat × Nat) × SV)}
   (hnext : next (.mk ((d, .v r) :: T) n c B M F)) :
   OpW (∀ A, ∃ s : SV, (∀ a w, WD E A n0 B0 Ms Fs w → TD E A T n c a w → (execOp a.eval o).run E.P w = .ok (.value (s.den A)) w ∧ s.okT n c w) ∧ (∃ d, Dst E o d ∧ next (.mk ((d, s) :: T) n c B M F))) :=
 ⟨fun _A => ⟨.v r, fun _a w _hW hT => ⟨fZ0 hT hop hx hy (hg w) (hb w), trivial⟩, d, hd, hnext⟩⟩
theorem oT {P : Program} {t : TypeId} {k : IntKind} {p q r : Int} (hne : q ≠ 0) (hr : r = p.tmod q) (w : World) : (binOp .rem t (.int k p) (.int k q)).run P w = .ok (.int k r) w := by
 subst hr; simp [binOp, Op.intDiv, hne]
theorem wB {P : Program} {t : TypeId} {k : IntKind} {p q r : Int} (hne : q ≠ 0) (hr : r = k.wrap (p.tdiv q)) (w : World) : (binOp .quo t (.int k p) (.int k q)).run P w = .ok (.int k r) w := by
 subst hr; simp [binOp, Op.intDiv, hne]
theorem mF0 {P : Program} {t : TypeId} {k : IntKind} {p q r : Int} (hr : r = k.wrap ((BitVec.ofInt k.bits p ^^^ BitVec.ofInt k.bits q).toNat : Int)) (w : World) : (binOp .xor t (.int k p) (.int k q)).run P w = .ok (.int k r) w := by
 subst hr; simp [binOp, Op.intBits]
end
def AtP (w : World) (g : Nat) : List Fct → Prop
 | [] => True
 | f :: r => (f.P w ∧ ∀ b, f.foot b → b < w.heap.size ∧ b ≠ g) ∧ AtP w g r
theorem AtP.at {w : World} {g : Nat} : ∀ {F : List Fct}, AtP w g F → At w F
 | [], _ => trivial
 | _ :: _, h => ⟨⟨h.1.1, fun b hb => (h.1.2 b hb).1⟩, AtP.at h.2⟩
theorem AtP.all {w : World} {g : Nat} : ∀ {F : List Fct}, AtP w g F → ∀ f ∈ F, ∀ b, f.foot b → b ≠ g
 | [], _, f, hf => by cases hf
 | _ :: _, h, f, hf => by
   rcases List.mem_cons.1 hf with rfl | hf
   · exact fun b hb => (h.1.2 b hb).2
   · exact AtP.all h.2 f hf
def Blk (w : World) (g : Nat) (ty : TypeId) (cs : List Value) : Prop := w.heap[g]? = some (.cells cs.toArray ty (0, 0))
def wV (w : World) (g : Nat) (ty : TypeId) (sz : Nat) (R : Value → List Value → List Fct → Prop) : Ending → World → Prop := fun e w' =>
 ∃ v cs L, e = .returned v ∧ ExtX (fun b => b = g) w w' ∧ Blk w' g ty cs ∧ cs.length = sz ∧ New w w' L ∧ R v cs L
def oM0 (w : World) (ty : TypeId) (sz : Nat) (R : List Value → List Fct → Prop) : Ending → World → Prop := fun e w' =>
 ∃ g cs L, e = .returned (.pointer (some ⟨g, 0, none⟩)) ∧ Ext w w' ∧ w.heap.size ≤ g ∧ g < w'.heap.size ∧ Blk w' g ty cs ∧ cs.length = sz ∧ New w w' L ∧ (∀ f ∈ L, ∀ b, f.foot b → b ≠ g) ∧ R cs L
abbrev oU (P : Program) (w : World) (N g : Nat) : Env := ⟨P, w, fun b => b = g, N, 1, fun _ => g⟩
theorem WD.initP (P : Program) (w : World) (N g : Nat) (ty : TypeId) (cs : List Value) {F : List Fct} (hg : Blk w g ty cs) (h : AtP w g F) (ho : kV F) :
   WD (oU P w N g) (fun _ => g) 1 [(0, ty, cs.length)] (fG 0 0 (cs.map .v) []) F w := by
 have hlt : g < w.heap.size := (Array.getElem?_eq_some_iff.1 hg).1
 refine ⟨?_, ?_, ?_, fun k hk => rfl, Nat.le_refl _, ExtX.refl _ _, fun f hf => ?_, ?_⟩
 · intro k ty' sz hk
   simp only [List.mem_singleton, Prod.mk.injEq] at hk
   obtain ⟨rfl, rfl, rfl⟩ := hk
   exact ⟨Nat.zero_lt_one, hlt, .inr rfl, _, hg, by simp⟩
 · intro k ty1 sz1 k' ty2 sz2 h1 h2 _
   simp only [List.mem_singleton, Prod.mk.injEq] at h1 h2
   rw [h1.1, h2.1]
 · intro k o v hv
   rw [dJ] at hv
   split at hv
   · rename_i hc
     obtain ⟨rfl, _, hc3⟩ := hc
     rw [Nat.sub_zero, List.getElem?_map] at hv
     cases hx : cs[o]? with
     | none => rw [hx] at hv; simp at hv
     | some u =>
       rw [hx] at hv; simp at hv; subst hv
       refine ⟨⟨ty, cs.length, by simp⟩, ?_, trivial⟩
       rw [cell_of_row _ _ _ _ _ _ hg]
       show cs.toArray[o]? = some u
       simpa using hx
   · simp [dS] at hv
 · obtain ⟨h1, h2⟩ := wP h.at f hf
   obtain ⟨h3, h4⟩ := gP ho f hf
   exact ⟨h1, fun b hb => ⟨h2 b hb, fun k ty sz _ => (h.all f hf b hb).symm⟩, fun e => by rw [h4] at e; cases e⟩
 · rw [List.pairwise_iff_getElem]
   intro i j hi hj _ hor
   rw [(gP ho _ (List.getElem_mem hi)).1, (gP ho _ (List.getElem_mem hj)).1] at hor
   simp at hor
section
variable {P : Program} {f : FuncId} {fn : Func} {x : Code} {R : Ending → World → Prop} {ti : Nat → TI}
theorem yQ (hf : P.funcs[f]? = some fn) (hb : fn.body = some x) (hti : ∀ t, bK P t (ti t)) (w : World) (N : Nat) (hN : fn.ntmps = N) (rs : List ResultVar) (hrs : fn.results.toList = rs) (g : Nat) (ty : TypeId) (cs : List Value) (sz : Nat) (hsz : dG cs = sz) (hg : Blk w g ty cs) (F : List Fct) (hF : AtP w g F) (ho : kV F)
   (l : List Value) (hl : l.length + 1 ≤ N)
   (hv : dZ (oU P w N g) ti x (nZ (oU P w N g) ti rs R) (.mk (rJ 0 (.p 0 0 :: l.map .v)) 1 0 [(0, ty, sz)] (fG 0 0 (cs.map .v) []) F)) : Calls P f (.pointer (some ⟨g, 0, none⟩) :: l).toArray w R := by
 subst hN; subst hrs
 rw [dF] at hsz
 subst hsz
 exact pQ hf hb (oU P w fn.ntmps g) rfl rfl hti (.p 0 0 :: l.map .v) 1 [(0, ty, cs.length)] (fG 0 0 (cs.map .v) []) F (A := fun _ => g) (by simp [show (SV.den (fun _ => g) ∘ SV.v) = id from rfl, SV.den, ptr])
   (fun s hs => by
     rcases List.mem_cons.1 hs with rfl | hs
     · exact Nat.zero_lt_one
     · obtain ⟨u, _, rfl⟩ := List.mem_map.1 hs; trivial) z92 (WD.initP P w _ _ _ _ hg hF ho) hv
variable (hf : P.funcs[f]? = some fn) (hb : fn.body = some x) (hti : ∀ t, bK P t (ti t)) (w : World) (N : Nat) (hN : fn.ntmps = N) (rs : List ResultVar) (hrs : fn.results.toList = rs) (g : Nat) (ty : TypeId) (cs : List Value) (sz : Nat) (hsz : dG cs = sz) (hg : Blk w g ty cs) (F : List Fct) (hF : AtP w g F) (ho : kV F)
 include hf hb hti hN hrs hsz hg hF ho
theorem aK0 (hl : 1 ≤ N) (hv : dZ (oU P w N g) ti x (nZ (oU P w N g) ti rs R) (.mk [(0, .p 0 0)] 1 0 [(0, ty, sz)] (fG 0 0 (cs.map .v) []) F)) : Calls P f #[.pointer (some ⟨g, 0, none⟩)] w R :=
 yQ hf hb hti w N hN rs hrs g ty cs sz hsz hg F hF ho [] hl hv
theorem sR (a : Value) (hl : 2 ≤ N) (hv : dZ (oU P w N g) ti x (nZ (oU P w N g) ti rs R) (.mk [(0, .p 0 0), (1, .v a)] 1 0 [(0, ty, sz)] (fG 0 0 (cs.map .v) []) F)) : Calls P f #[.pointer (some ⟨g, 0, none⟩), a] w R :=
 yQ hf hb hti w N hN rs hrs g ty cs sz hsz hg F hF ho [a] hl hv
end
section
variable {E : Env} {ti : Nat → TI} {A : Nat → Nat} {T : List (Nat × SV)} {n c : Nat} {B : List (Nat × TypeId × Nat)} {M : List ((Nat × Nat) × SV)} {F Fs : List Fct} {o : Oper} {next : St → Prop} {a : Act} {w w' : World}
def iH : List (Nat × TypeId × Nat) → Nat → Option (TypeId × Nat)
 | [], _ => none
 | (k, t, sz) :: r, k' => match Nat.beq k k' with
   | true => some (t, sz)
   | false => iH r k'
theorem cQ : ∀ {B : List (Nat × TypeId × Nat)} {k t sz : Nat}, iH B k = some (t, sz) → (k, t, sz) ∈ B
 | [], _, _, _, h => by simp [iH] at h
 | (k, t, sz) :: r, k', t', sz', h => by
   simp only [iH] at h
   split at h
   · rename_i hb
     obtain rfl := Nat.eq_of_beq_eq_true hb
     simp at h
     obtain ⟨rfl, rfl⟩ := h
     simp
   · exact List.mem_cons_of_mem _ (cQ h)
theorem WD.blk (h : WD E A n B M F w) {k ty sz : Nat} {cs : List Value} (hB : (k, ty, sz) ∈ B) (hM : nE M k 0 sz = some cs) : Blk w (A k) ty cs ∧ cs.length = sz := by
 obtain ⟨_, _, _, cs0, h4, h5⟩ := h.key k ty sz hB
 obtain ⟨g1, g2⟩ := rQ (fun k o v hv => (h.mem k o v hv).2.1) hM
 refine ⟨?_, g1⟩
 unfold Blk
 rw [h4]
 congr 1
 have : cs0 = cs.toArray := by
   apply Array.ext
   · simp [h5, g1]
   · intro j h1 h2
     have := g2 j cs[j] (List.getElem?_eq_getElem (by simpa using h2))
     rw [cell_of_row _ _ _ _ _ _ h4, Nat.zero_add] at this
     obtain ⟨_, e⟩ := Array.getElem?_eq_some_iff.1 this
     simpa using e
 rw [this]
theorem WD.offB (h : WD E A n B M F w) {k ty sz : Nat} (hB : iH B k = some (ty, sz)) {P : Fct} (i : Nat) (hi : F[i]? = some P) : ∀ b, P.foot b → b < w.heap.size ∧ b ≠ A k :=
 fun b hb => ⟨((h.fct _ (List.mem_of_getElem? hi)).2.1 b hb).1, fun e => ((h.fct _ (List.mem_of_getElem? hi)).2.1 b hb).2 k ty sz (cQ hB) e.symm⟩
theorem WD.rdP (h : WD E A n B M F w) (g : Nat) {k ty sz : Nat} (hg : g = A k) (hB : iH B k = some (ty, sz)) (j : Nat) {old o2 : Bool} {i : Sl} {s m : Nat} {cs : List Value} (hi : F[j]? = some (fSl old i s cs m)) :
   (fSl o2 i s cs m).P w ∧ ∀ b, (fSl o2 i s cs m).foot b → b < w.heap.size ∧ b ≠ g := by
 subst hg
 exact ⟨(h.nth j hi).1, fun b hb => h.offB hB j hi b hb⟩
theorem WD.rdOwnP (h : WD E A n B M F w) (g : Nat) {k ty sz : Nat} (hg : g = A k) (hB : iH B k = some (ty, sz)) (j : Nat) {old o2 : Bool} {i : Sl} {e s m : Nat} {cs : List Value} (hi : F[j]? = some (kC old i e s cs m)) :
   (fSl o2 i s cs m).P w ∧ ∀ b, (fSl o2 i s cs m).foot b → b < w.heap.size ∧ b ≠ g := by
 subst hg
 exact ⟨oP (h.nth j hi).1, fun b hb => h.offB hB j hi b hb.2⟩
theorem WD.callP (h : WD E A n B M F w) {k ty sz : Nat} (hk : (k, ty, sz) ∈ B) {cs : List Value} (hex : ExtX (fun b => b = A k) w w') (hnew : Blk w' (A k) ty cs) (hl : cs.length = sz) {L : List Fct} (hL : New w w' L) :
   WD E A n B (fG k 0 (cs.map .v) M) (L ++ F) w' := by
 obtain ⟨hk1, hk2, hk3, cs0, hk4, hk5⟩ := h.key k ty sz hk
 refine ⟨?_, h.inj, ?_, h.a0, h.n0, h.ext.trans' hex (fun i hi e => ?_), ?_, ?_⟩
 · intro k' ty' sz' hk'
   obtain ⟨g1, g2, g3, cs2, g4, g5⟩ := h.key k' ty' sz' hk'
   refine ⟨g1, Nat.lt_of_lt_of_le g2 hex.size, g3, ?_⟩
   by_cases e : A k' = A k
   · rw [e, hk4] at g4
     simp only [Option.some.injEq, Obj.cells.injEq] at g4
     obtain ⟨rfl, rfl, _⟩ := g4
     exact ⟨cs.toArray, by rw [e]; exact hnew, by simp; omega⟩
   · exact ⟨cs2, by rw [hex.block _ g2 e]; exact g4, g5⟩
 · intro k' o' v hv
   rw [dJ] at hv
   split at hv
   · rename_i hc
     obtain ⟨rfl, _, hc3⟩ := hc
     rw [Nat.sub_zero, List.getElem?_map] at hv
     cases hx : cs[o']? with
     | none => rw [hx] at hv; simp at hv
     | some u =>
       rw [hx] at hv; simp at hv; subst hv
       refine ⟨⟨ty, sz, hk⟩, ?_, trivial⟩
       rw [cell_of_row _ _ _ _ _ _ hnew]
       show cs.toArray[o']? = some u
       simpa using hx
   · rename_i hc
     obtain ⟨⟨ty', sz', hk'⟩, g2, g3⟩ := h.mem k' o' v hv
     refine ⟨⟨ty', sz', hk'⟩, ?_, g3⟩
     by_cases e : A k' = A k
     · have ek : k' = k := h.inj _ _ _ _ _ _ hk' hk e
       subst ek
       rw [cell_of_row _ _ _ _ _ _ hk4] at g2
       have : o' < cs0.size := (Array.getElem?_eq_some_iff.1 g2).1
       exact absurd ⟨rfl, Nat.zero_le _, by simp; omega⟩ hc
     · rw [← g2]
       exact World.cell?_of_block (hex.block _ (h.key _ _ _ hk').2.1 e)
 · subst e
   rcases hk3 with hk3 | hk3
   · omega
   · exact hk3
 · intro f hf
   rcases List.mem_append.1 hf with hf | hf
   · obtain ⟨h1, h2, h3⟩ := hL.all f hf
     refine ⟨h1, fun b hb => ⟨(h3 b hb).2, fun k ty sz hk e => ?_⟩, fun _ b hb => .inl (Nat.le_trans h.ext.size (h3 b hb).1)⟩
     have := (h.key k ty sz hk).2.1
     have := (h3 b hb).1
     omega
   · obtain ⟨g1, g2, g3⟩ := h.fct f hf
     exact ⟨Fct.keep g1 (fun b hb => (g2 b hb).1) hex (fun b hb e => (g2 b hb).2 k ty sz hk e.symm), fun b hb => ⟨Nat.lt_of_lt_of_le (g2 b hb).1 hex.size, (g2 b hb).2⟩, g3⟩
 · rw [List.pairwise_append]
   refine ⟨hL.dj, h.dj, fun f hf g hg _ b hb hb' => ?_⟩
   have := (hL.all f hf).2.2 b hb
   have := ((h.fct g hg).2.1 b hb').1
   omega
theorem WD.callN (h : WD E A n B M F w) {g ty sz : Nat} {cs : List Value} (hex : Ext w w') (hg1 : w.heap.size ≤ g) (hg2 : g < w'.heap.size) (hnew : Blk w' g ty cs) (hl : cs.length = sz) {L : List Fct} (hL : New w w' L) (hoff : ∀ f ∈ L, ∀ b, f.foot b → b ≠ g) :
   WD E (fun k => if k = n then g else A k) (n + 1) ((n, ty, sz) :: B) (fG n 0 (cs.map .v) M) (L ++ F) w' := by
 have h' := h.learn hex hL
 have hold : ∀ k ty sz, (k, ty, sz) ∈ B → k ≠ n := fun k ty sz hk => by have := (h.key k ty sz hk).1; omega
 have hlt : ∀ k ty sz, (k, ty, sz) ∈ B → A k < w.heap.size := fun k ty sz hk => (h.key k ty sz hk).2.1
 refine ⟨?_, ?_, ?_, ?_, Nat.le_succ_of_le h.n0, h'.ext, ?_, h'.dj⟩
 · intro k ty' sz' hk
   rcases List.mem_cons.1 hk with hk | hk
   · simp only [Prod.mk.injEq] at hk
     obtain ⟨rfl, rfl, rfl⟩ := hk
     simp only [if_true]
     exact ⟨Nat.lt_succ_self _, hg2, .inl (Nat.le_trans h.ext.size hg1), _, hnew, by simpa using hl⟩
   · obtain ⟨h1, h2, h3, h4⟩ := h'.key k ty' sz' hk
     simp only [if_neg (hold k ty' sz' hk)]
     exact ⟨by omega, h2, h3, h4⟩
 · intro k ty1 sz1 k' ty2 sz2 hk hk' he
   rcases List.mem_cons.1 hk with hk | hk <;> rcases List.mem_cons.1 hk' with hk' | hk'
   · simp only [Prod.mk.injEq] at hk hk'; omega
   · simp only [Prod.mk.injEq] at hk
     simp only [hk.1, if_true, if_neg (hold _ _ _ hk')] at he
     have := hlt _ _ _ hk'
     omega
   · simp only [Prod.mk.injEq] at hk'
     simp only [hk'.1, if_true, if_neg (hold _ _ _ hk)] at he
     have := hlt _ _ _ hk
     omega
   · simp only [if_neg (hold _ _ _ hk), if_neg (hold _ _ _ hk')] at he
     exact h.inj _ _ _ _ _ _ hk hk' he
 · intro k o v hv
   rw [dJ] at hv
   split at hv
   · rename_i hc
     obtain ⟨rfl, _, hc3⟩ := hc
     rw [Nat.sub_zero, List.getElem?_map] at hv
     cases hx : cs[o]? with
     | none => rw [hx] at hv; simp at hv
     | some u =>
       rw [hx] at hv; simp at hv; subst hv
       refine ⟨⟨ty, sz, by simp⟩, ?_, trivial⟩
       simp only [if_true]
       rw [cell_of_row _ _ _ _ _ _ hnew]
       show cs.toArray[o]? = some u
       simpa using hx
   · obtain ⟨⟨ty', sz', hk⟩, h2, h3⟩ := h'.mem k o v hv
     refine ⟨⟨ty', sz', by simp [hk]⟩, ?_, SV.small_more h3 (Nat.le_succ _)⟩
     simp only [if_neg (hold _ _ _ hk)]
     rw [SV.den_upd (SV.small_okT (c := 0) (w := w) h3) _ _ (Nat.le_refl _), ← h2]
 · intro k hk
   have hk' := h.n0
   simp only [if_neg (show k ≠ n by omega)]
   exact h.a0 k hk
 · intro f hf
   obtain ⟨h1, h2, h3⟩ := h'.fct f hf
   refine ⟨h1, fun b hb => ⟨(h2 b hb).1, fun k ty' sz' hk => ?_⟩, h3⟩
   rcases List.mem_cons.1 hk with hk | hk
   · simp only [Prod.mk.injEq] at hk
     simp only [hk.1, if_true]
     rcases List.mem_append.1 hf with hf | hf
     · exact (hoff f hf b hb).symm
     · have := ((h.fct f hf).2.1 b hb).1
       omega
   · simp only [if_neg (hold _ _ _ hk)]
     exact (h2 b hb).2 k ty' sz' hk
theorem jL (hT : TD E A T n c a w) {k : Call} {fo : Operand} {g : FuncId} {cap : List (Nat × Nat)} {l : List SV} (hc : aD E.P g = true)
   (hop : o.op = .call k) (hk : k.callee = .value fo) (hf : bF T fo = some (.f g cap)) (ha : jB T k.args.toList = some l) :
   (execOp a.eval o).run E.P w = .ok (.enter g ((l.map (SV.den A)) ++ cap.map (fun x => ptr A x.1 x.2)).toArray) w := by
 have hargs : (k.args.map a.eval).toList = l.map (SV.den A) := by rw [Array.toList_map]; exact iP hT ha
 have hfv := (aI hT hf).1
 have hcat : (k.args.map a.eval) ++ (cap.map (fun x => ptr A x.1 x.2)).toArray = ((l.map (SV.den A)) ++ cap.map (fun x => ptr A x.1 x.2)).toArray := by
   apply Array.ext'; rw [Array.toList_append, hargs]
 simp only [execOp, hop, resolve, hk, Sem.run_bind, hfv, SV.den, Deferred.ofValue, Sem.run_pure, Result.andThen_ok, Array.empty_append, invoke, hcat, kJ hc]
theorem bY (R : Value → List Value → List Fct → Prop) {k : Call} {fo : Operand} {g : FuncId} {cap : List (Nat × Nat)} {l : List SV} {d kb ty sz : Nat} {cs : List Value} (hc : aD E.P g = true)
   (hop : o.op = .call k) (hk : k.callee = .value fo) (hf : bF T fo = some (.f g cap)) (ha : jB T k.args.toList = some (.p kb 0 :: l)) (hd : Dst E o d) (hB : iH B kb = some (ty, sz)) (hM : nE M kb 0 sz = some cs)
   (hcall : ∀ A w ga, ga = A kb → WD E A n B M F w → Blk w ga ty cs → Calls E.P g (.pointer (some ⟨ga, 0, none⟩) :: ((l.map (SV.den A)) ++ cap.map (fun x => ptr A x.1 x.2))).toArray w (wV w ga ty sz R))
   (hnext : ∀ v cs L, R v cs L → kI kb 0 (cs.map .v) M fun M' => next (.mk ((d, .v v) :: T) n (c + 1) B M' (L ++ F))) :
   OpW (dI E o next T n c B M F) := by
 refine ⟨fun A a w hW hT => ?_⟩
 unfold Oper.wp
 rw [jL hT hc hop hk hf ha, Oper.upon_enter]
 refine (hcall A w (A kb) rfl hW (hW.blk (cQ hB) hM).1).mono ?_
 rintro e w' ⟨v, cs', L, rfl, he, hb, hl, hL, hR⟩
 have hn := hnext v cs' L hR
 rw [eJ] at hn
 refine ⟨_, ⟨_, hW.callP (cQ hB) he hb hl hL, ?_⟩, hn⟩
 rw [hd.1]
 exact (hT.step w').put (v := .v v) hd.lt trivial
theorem dY0 (R : List Value → List Fct → Prop) {k : Call} {fo : Operand} {g : FuncId} {cap : List (Nat × Nat)} {l : List SV} {d : Nat} (ty sz : Nat) (hc : aD E.P g = true)
   (hop : o.op = .call k) (hk : k.callee = .value fo) (hf : bF T fo = some (.f g cap)) (ha : jB T k.args.toList = some l) (hd : Dst E o d)
   (hcall : ∀ A w, WD E A n B M F w → Calls E.P g ((l.map (SV.den A)) ++ cap.map (fun x => ptr A x.1 x.2)).toArray w (oM0 w ty sz R))
   (hnext : ∀ cs L, R cs L → kI n 0 (cs.map .v) M fun M' => next (.mk ((d, .p n 0) :: T) (n + 1) (c + 1) ((n, ty, sz) :: B) M' (L ++ F))) :
   OpW (dI E o next T n c B M F) := by
 refine ⟨fun A a w hW hT => ?_⟩
 unfold Oper.wp
 rw [jL hT hc hop hk hf ha, Oper.upon_enter]
 refine (hcall A w hW).mono ?_
 rintro e w' ⟨q, cs', L, rfl, he, hq1, hq2, hb, hl, hL, hoff, hR⟩
 have hn := hnext cs' L hR
 rw [eJ] at hn
 refine ⟨_, ⟨_, hW.callN he hq1 hq2 hb hl hL hoff, ?_⟩, hn⟩
 rw [hd.1]
 have := (hT.alloc q w').put (d := d) (v := .p n 0) hd.lt (Nat.lt_succ_self n)
 simpa [SV.den, ptr] using this
theorem cC0 {Ms : List ((Nat × Nat) × SV)} {kb sz : Nat} {l : List SV} (h : fU0 Ms M) (hno : sP Ms kb 0 sz = true) (hl : l.length = sz) : fU0 Ms (fG kb 0 l M) := by
 intro k o v hv
 rw [dJ, if_neg ?_]
 · exact h k o v hv
 · have := pV hno k o v hv
   rw [hl]
   exact this
theorem sS (R : Value → List Value → List Fct → Prop) {k : Call} {fo : Operand} {g : FuncId} {cap : List (Nat × Nat)} {l : List SV} {d kb ty sz : Nat} {cs : List Value} {Ms : List ((Nat × Nat) × SV)} (hc : aD E.P g = true)
   (hop : o.op = .call k) (hk : k.callee = .value fo) (hf : bF T fo = some (.f g cap)) (ha : jB T k.args.toList = some (.p kb 0 :: l)) (hd : Dst E o d) (hB : iH B kb = some (ty, sz)) (hM : nE M kb 0 sz = some cs) (hno : sP Ms kb 0 sz = true)
   (hcall : ∀ A w ga, ga = A kb → WD E A n B M F w → Blk w ga ty cs → Calls E.P g (.pointer (some ⟨ga, 0, none⟩) :: ((l.map (SV.den A)) ++ cap.map (fun x => ptr A x.1 x.2))).toArray w (wV w ga ty sz R))
   (hnext : ∀ v cs L, R v cs L → kI kb 0 (cs.map .v) M fun M' => next (.mk ((d, .v v) :: T) n (c + 1) B M' (L ++ F))) :
   OpW (opD E o Ms Fs next T n c B M F) := by
 refine ⟨fun hkm hkf A a w hW hT => ?_⟩
 unfold Oper.wp
 rw [jL hT hc hop hk hf ha, Oper.upon_enter]
 refine (hcall A w (A kb) rfl hW (hW.blk (cQ hB) hM).1).mono ?_
 rintro e w' ⟨v, cs', L, rfl, he, hb, hl, hL, hR⟩
 have hn := hnext v cs' L hR
 rw [eJ] at hn
 refine ⟨A, _, n, _, B, _, _, fun _ _ => rfl, Nat.le_refl _, fun _ h => h, cC0 hkm hno z92, fun f hf => List.mem_append_right _ (hkf f hf), hW.callP (cQ hB) he hb hl hL, fun w2 => ?_, hn⟩
 rw [hd.1]
 exact (hT.step w2).put (v := .v v) hd.lt trivial
end
theorem mR {P : Program} {w : World} {N g ty sz : Nat} {n : Nat} {B : List (Nat × TypeId × Nat)} {M : List ((Nat × Nat) × SV)} {F : List Fct} {R : Value → List Value → List Fct → Prop} {l : List SV} (ix : List Nat) {L : List Fct} {v : Value} {cs : List Value} (hR : R v cs L) (hB : iH B 0 = some (ty, sz)) (hM : nE M 0 0 sz = some cs)
   (hF : FW F ix L) (hix : kL ix = true) (ho : oQ L) (hv : ∀ A, gZ A l = v) :
   RetW (∀ A w', WD (oU P w N g) A n B M F w' → wV w g ty sz R (.returned (gZ A l)) w') := by
 refine ⟨fun A w' h => ?_⟩
 rw [hv A]
 have hs := h.pick ix hF hix
 obtain ⟨hb, hl⟩ := h.blk (cQ hB) hM
 have ha : A 0 = g := h.a0 0 (by show 0 < 1; omega)
 rw [ha] at hb
 refine ⟨v, cs, L, rfl, h.ext, hb, hl, ⟨fun f hf => ?_, hs.dj⟩, hR⟩
 obtain ⟨h1, h2, h3⟩ := hs.fct f hf
 exact ⟨h1, eV ho f hf, fun b hb => ⟨(h3 (eV ho f hf) b hb).resolve_right (fun e => (h2 b hb).2 0 ty sz (cQ hB) (ha.trans e.symm)), (h2 b hb).1⟩⟩
theorem retN {P : Program} {w : World} {N kb ty sz : Nat} {n : Nat} {B : List (Nat × TypeId × Nat)} {M : List ((Nat × Nat) × SV)} {F : List Fct} {R : List Value → List Fct → Prop} {l : List SV} (ix : List Nat) {L : List Fct} {cs : List Value} (hR : R cs L) (hl : l = [.p kb 0]) (hB : iH B kb = some (ty, sz)) (hM : nE M kb 0 sz = some cs)
   (hF : FW F ix L) (hix : kL ix = true) (ho : oQ L) :
   RetW (∀ A w', WD (kG P w N) A n B M F w' → oM0 w ty sz R (.returned (gZ A l)) w') := by
 refine ⟨fun A w' h => ?_⟩
 subst hl
 have hs := h.pick ix hF hix
 obtain ⟨hb, hl⟩ := h.blk (cQ hB) hM
 obtain ⟨_, g2, g3, _⟩ := h.key kb ty sz (cQ hB)
 refine ⟨A kb, cs, L, rfl, h.ext, g3.resolve_right (fun h => h), g2, hb, hl, ⟨fun f hf => ?_, hs.dj⟩, fun f hf b hb => ?_, hR⟩
 · obtain ⟨h1, h2, h3⟩ := hs.fct f hf
   exact ⟨h1, eV ho f hf, fun b hb => ⟨(h3 (eV ho f hf) b hb).resolve_right (fun h => h), (h2 b hb).1⟩⟩
 · exact (((hs.fct f hf).2.1 b hb).2 kb ty sz (cQ hB)).symm
end Go.Sx
namespace Go.Proofs.YtijmjecehppbfaaGreat
set_option maxRecDepth 100000
set_option maxHeartbeats 100000000
open Go Go.Sx Go.RowKit
def iI (x : UInt8) : List Value := [.int .u8 (x.toNat : Int)]
theorem sT : Enc iI 1 := ⟨fun _ => rfl, fun _ u hu => by simp [iI] at hu; subst hu; rfl⟩
def nW (bi : Sl) (bs : List UInt8) (p : Nat) : List Value := [bi.val bs.length, .int .i64 (p : Int)]
theorem cY {x : Int} (h0 : 0 ≤ x) (h : x < 9223372036854775808) : IntKind.i64.wrap x = x := by
 rw [IntKind.wrap_i64]; omega
theorem oN0 {x y : Int} (hx0 : 0 ≤ x) (hx : x < 9223372036854775808) (hy0 : 0 ≤ y) (hy : y < 9223372036854775808) :
   ∃ z : Nat, IntKind.i64.wrap ((BitVec.ofInt IntKind.i64.bits x ^^^ BitVec.ofInt IntKind.i64.bits y).toNat : Int) = (z : Int) ∧ z < 9223372036854775808 := by
 have h1 : (BitVec.ofInt IntKind.i64.bits x ^^^ BitVec.ofInt IntKind.i64.bits y).toNat = x.toNat ^^^ y.toNat := by
   rw [BitVec.toNat_xor, BitVec.toNat_ofInt, BitVec.toNat_ofInt]
   have e : ((2 ^ IntKind.i64.bits : Nat) : Int) = 18446744073709551616 := by decide
   rw [e, Int.emod_eq_of_lt hx0 (by omega), Int.emod_eq_of_lt hy0 (by omega)]
 rw [h1]
 have h2 : x.toNat ^^^ y.toNat < 2 ^ 63 := Nat.xor_lt_two_pow (by omega) (by omega)
 have h2' : x.toNat ^^^ y.toNat < 9223372036854775808 := h2
 exact ⟨_, cY (by omega) (by omega), h2'⟩
theorem jM0 {b1 b2 p q X : Nat} (h1 : b1 < 256) (h2 : b2 < 256) (hp : p < 1000000000) (hq : q ≤ p) (hX : X = b1 * 131 + b2 * 1117 + p * 29 + q * 53) :
   IntKind.i64.wrap (IntKind.i64.wrap (IntKind.i64.wrap (IntKind.i64.wrap (IntKind.i64.wrap (b1 : Int) * 131) + IntKind.i64.wrap (IntKind.i64.wrap (b2 : Int) * 1117)) + IntKind.i64.wrap ((p : Int) * 29)) + IntKind.i64.wrap ((q : Int) * 53)) = (X : Int) := by
 have w1 : IntKind.i64.wrap (b1 : Int) = b1 := cY (by omega) (by omega)
 have w2 : IntKind.i64.wrap (b2 : Int) = b2 := cY (by omega) (by omega)
 have w3 : IntKind.i64.wrap ((b1 : Int) * 131) = (b1 : Int) * 131 := cY (by omega) (by omega)
 have w4 : IntKind.i64.wrap ((b2 : Int) * 1117) = (b2 : Int) * 1117 := cY (by omega) (by omega)
 have w5 : IntKind.i64.wrap ((p : Int) * 29) = (p : Int) * 29 := cY (by omega) (by omega)
 have w6 : IntKind.i64.wrap ((q : Int) * 53) = (q : Int) * 53 := cY (by omega) (by omega)
 rw [w1, w2, w3, w4, w5, w6]
 rw [cY (x := (b1 : Int) * 131 + (b2 : Int) * 1117) (by omega) (by omega), cY (x := (b1 : Int) * 131 + (b2 : Int) * 1117 + (p : Int) * 29) (by omega) (by omega), cY (by omega) (by omega)]
 omega
theorem lV (g : Nat) (bi : Sl) (bs : List UInt8) (p : Nat) (n : Int) (w : World) (hg : Blk w g 140 (nW bi bs p)) (h : AtP w g [slo bi iI 1 bs]) (hb : bs.length ≤ 2000) (hp : p < 1000000000) :
   Calls Tryz.prog 97 #[.pointer (some ⟨g, 0, none⟩), .int .i64 n] w (wV w g 140 2 fun v cs L => ∃ k : Nat, v = .int .i64 (k : Int) ∧ (1 ≤ n → (k : Int) < n) ∧ (n < 1 → k = 0) ∧ cs = nW bi bs (p + 1) ∧ L = []) := by
 have e1 : IntKind.i64.wrap ((p : Int) + 1) = ((p + 1 : Nat) : Int) := by rw [cY] <;> omega
 have e2 : IntKind.i64.wrap (((p + 1 : Nat) : Int) - 1) = (p : Int) := by rw [cY] <;> omega
 refine sR Tryz.func97 rfl aA w _ rfl _ rfl _ 140 _ 2 rfl hg _ h ⟨rfl, rfl, trivial⟩ _ (by decide) ?_
 refine CaseB.mk (fun h => ?_) (fun h => ?_)
 · refine mR [] ⟨0, rfl, ?_, fun _ => rfl, ?_, rfl⟩ rfl rfl trivial rfl trivial (fun _ => rfl)
   · intro h1
     simp at h; omega
   · simp only [nW, e1]
 · have hn1 : 1 ≤ n := by simp at h; omega
   refine CaseB.mk (fun h => ?_) (fun h => ?_)
   · exact mR [] ⟨0, rfl, fun _ => by omega, fun _ => rfl, by simp only [nW, e1], rfl⟩ rfl rfl trivial rfl trivial (fun _ => rfl)
   · have hL : 0 < bs.length := by
       rcases Nat.eq_zero_or_pos bs.length with h0 | h0
       · rw [h0] at h; simp at h
       · exact h0
     have e3 : IntKind.i64.wrap (IntKind.i64.wrap ((p : Int) + 1) - 1) = (p : Int) := by rw [e1, e2]
     refine CaseB.mk (fun h => ?_) (fun h => ?_)
     · rw [e3] at h
       have hlt : p < bs.length := by simpa using h
       have hb8 := bs[p].toNat_lt
       have e4 : IntKind.i64.wrap (bs[p].toNat : Int) = (bs[p].toNat : Int) := by rw [cY] <;> omega
       have e5 : ((bs[p].toNat % n.toNat : Nat) : Int) = (IntKind.i64.wrap (bs[p].toNat : Int)).tmod n := by
         rw [e4, Int.tmod_eq_emod_of_nonneg (by omega), Int.natCast_emod, Int.toNat_of_nonneg (by omega)]
       refine aG sT aA rfl rfl rfl rfl rfl ⟨rfl, rfl⟩ z35 p e3 z43 (fun ad => ?_)
       refine cM rfl rfl rfl ⟨rfl, rfl⟩ (.int .i64 ((bs[p].toNat % n.toNat : Nat) : Int)) (fun w => dM w) (fun w => oT (by omega) e5 w) ?_
       refine mR [] ⟨_, rfl, fun _ => ?_, fun _ => by omega, by simp only [nW, e1], rfl⟩ rfl rfl trivial rfl trivial (fun _ => rfl)
       rw [Int.natCast_emod, Int.toNat_of_nonneg (by omega)]
       exact Int.emod_lt_of_pos _ (by omega)
     · refine aF aA z102 z102 z102 200 [((0, 0), .v (bi.val bs.length)), ((0, 1), .v (.int .i64 (IntKind.i64.wrap ((p : Int) + 1))))] [0] [_] z135 z145 ⟨rfl, trivial⟩ rfl ?_
       have r1 : ((p % bs.length : Nat) : Int) = (IntKind.i64.wrap (IntKind.i64.wrap ((p : Int) + 1) - 1)).tmod (bs.length : Int) := by
         rw [e3, Int.tmod_eq_emod_of_nonneg (by omega), Int.natCast_emod]
       have hm := Nat.mod_lt p hL
       refine kT rfl rfl rfl ⟨rfl, rfl⟩ (.int .i64 ((p % bs.length : Nat) : Int)) (fun w => dM w) (fun w => oT (by omega) r1 w) ?_
       refine bO (ti := aU tab) sT aA rfl rfl rfl rfl rfl ⟨rfl, rfl⟩ z35 (p % bs.length) rfl z43 (fun ad => ?_)
       have r2 : (((p * 7 + 3) % bs.length : Nat) : Int) = (IntKind.i64.wrap (IntKind.i64.wrap (IntKind.i64.wrap (IntKind.i64.wrap ((p : Int) + 1) - 1) * 7) + 3)).tmod (bs.length : Int) := by
         rw [e3, show IntKind.i64.wrap ((p : Int) * 7) = ((p * 7 : Nat) : Int) by rw [cY] <;> omega, show IntKind.i64.wrap (((p * 7 : Nat) : Int) + 3) = ((p * 7 + 3 : Nat) : Int) by rw [cY] <;> omega, Int.tmod_eq_emod_of_nonneg (by omega), Int.natCast_emod]
       have hm2 := Nat.mod_lt (p * 7 + 3) hL
       refine kT rfl rfl rfl ⟨rfl, rfl⟩ (.int .i64 (((p * 7 + 3) % bs.length : Nat) : Int)) (fun w => dM w) (fun w => oT (by omega) r2 w) ?_
       refine bO (ti := aU tab) sT aA rfl rfl rfl rfl rfl ⟨rfl, rfl⟩ z35 ((p * 7 + 3) % bs.length) rfl z43 (fun ad2 => ?_)
       have r3 : ((p / bs.length : Nat) : Int) = IntKind.i64.wrap ((IntKind.i64.wrap (IntKind.i64.wrap ((p : Int) + 1) - 1)).tdiv (bs.length : Int)) := by
         have := Nat.div_le_self p bs.length
         have h0 : 0 ≤ ((p / bs.length : Nat) : Int) := Int.natCast_nonneg _
         rw [e3, Int.tdiv_eq_ediv_of_nonneg (by omega), ← Int.natCast_ediv, cY] <;> omega
       refine kT rfl rfl rfl ⟨rfl, rfl⟩ (.int .i64 ((p / bs.length : Nat) : Int)) (fun w => dM w) (fun w => wB (by omega) r3 w) ?_
       have hb1 := bs[p % bs.length].toNat_lt
       have hb2 := bs[(p * 7 + 3) % bs.length].toNat_lt
       have hdl := Nat.div_le_self p bs.length
       obtain ⟨X, hX⟩ : ∃ X : Nat, X = bs[p % bs.length].toNat * 131 + bs[(p * 7 + 3) % bs.length].toNat * 1117 + p * 29 + p / bs.length * 53 := ⟨_, rfl⟩
       have r4 : IntKind.i64.wrap (IntKind.i64.wrap (IntKind.i64.wrap (IntKind.i64.wrap (IntKind.i64.wrap (bs[p % bs.length].toNat : Int) * 131) + IntKind.i64.wrap (IntKind.i64.wrap (bs[(p * 7 + 3) % bs.length].toNat : Int) * 1117)) + IntKind.i64.wrap (IntKind.i64.wrap (IntKind.i64.wrap ((p : Int) + 1) - 1) * 29)) + IntKind.i64.wrap (((p / bs.length : Nat) : Int) * 53)) = (X : Int) := by
         rw [e3]
         exact jM0 hb1 hb2 hp hdl hX
       have hXlt : X < 100000000000 := by
         generalize p / bs.length = q at *
         omega
       have r5 : ((X / 64 : Nat) : Int) = IntKind.i64.wrap ((IntKind.i64.wrap (IntKind.i64.wrap (IntKind.i64.wrap (IntKind.i64.wrap (IntKind.i64.wrap (bs[p % bs.length].toNat : Int) * 131) + IntKind.i64.wrap (IntKind.i64.wrap (bs[(p * 7 + 3) % bs.length].toNat : Int) * 1117)) + IntKind.i64.wrap (IntKind.i64.wrap (IntKind.i64.wrap ((p : Int) + 1) - 1) * 29)) + IntKind.i64.wrap (((p / bs.length : Nat) : Int) * 53))).tdiv 64) := by
         rw [r4, Int.tdiv_eq_ediv_of_nonneg (by omega), cY] <;> omega
       refine cM rfl rfl rfl ⟨rfl, rfl⟩ (.int .i64 ((X / 64 : Nat) : Int)) (fun w => dM w) (fun w => wB (by omega) r5 w) ?_
       obtain ⟨z, hz, hz2⟩ := oN0 (x := (X : Int)) (y := ((X / 64 : Nat) : Int)) (by omega) (by omega) (by omega) (by omega)
       refine cM rfl rfl rfl ⟨rfl, rfl⟩ (.int .i64 (z : Int)) (fun w => dM w) (fun w => mF0 (by rw [r4]; exact hz.symm) w) ?_
       have r6 : ((z % n.toNat : Nat) : Int) = (z : Int).tmod n := by
         rw [Int.tmod_eq_emod_of_nonneg (by omega), Int.natCast_emod, Int.toNat_of_nonneg (by omega)]
       refine cM rfl rfl rfl ⟨rfl, rfl⟩ (.int .i64 ((z % n.toNat : Nat) : Int)) (fun w => dM w) (fun w => oT (by omega) r6 w) ?_
       refine mR [] ⟨_, rfl, fun _ => ?_, fun _ => by omega, by simp only [nW, e1], rfl⟩ rfl rfl trivial rfl trivial (fun _ => rfl)
       rw [Int.natCast_emod, Int.toNat_of_nonneg (by omega)]
       exact Int.emod_lt_of_pos _ (by omega)
theorem mS (g : Nat) (bi : Sl) (bs : List UInt8) (p : Nat) (i : Sl) (xs : List Int) (w : World) (hg : Blk w g 140 (nW bi bs p)) (h : AtP w g [slo bi iI 1 bs, slo i aJ 1 xs]) (hb : bs.length ≤ 2000) (hp : p < 1000000000) (h0 : 0 < xs.length) :
   Calls Tryz.prog 98 #[.pointer (some ⟨g, 0, none⟩), i.val xs.length] w (wV w g 140 2 fun v cs L => ∃ x : Int, v = .int .i64 x ∧ x ∈ xs ∧ cs = nW bi bs (p + 1) ∧ L = []) := by
 refine sR Tryz.func98 rfl aA w _ rfl _ rfl _ 140 _ 2 rfl hg _ h ⟨rfl, rfl, rfl, rfl, trivial⟩ _ (by decide) ?_
 refine bY _ vW rfl rfl rfl rfl ⟨rfl, rfl⟩ rfl rfl (fun A w ga hga hW hblk => (lV ga bi bs p xs.length w hblk ⟨z33, trivial⟩ hb hp)) ?_
 rintro v cs L ⟨k, rfl, hk, _, rfl, rfl⟩
 have hlt : k < xs.length := by have := hk (by omega); omega
 refine aG aE aA rfl rfl rfl rfl rfl ⟨rfl, rfl⟩ z35 k rfl z43 (fun ad => ?_)
 exact mR [] ⟨_, rfl, List.getElem_mem hlt, rfl, rfl⟩ rfl rfl trivial rfl trivial (fun _ => rfl)
def sU (i : Sl) (xs : List UInt8) : Sl := if 2000 < xs.length then i.cut 0 1 else i
theorem oO0 (i : Sl) (xs : List UInt8) (w : World) (h : At w [slo i iI 1 xs]) (hb : xs.length ≤ 4294967296) :
   Calls Tryz.prog 38 #[i.val xs.length] w (oM0 w 140 2 fun cs L => cs = nW (sU i xs) (xs.take 2000) 0 ∧ L = []) := by
 refine bZ Tryz.func38 rfl aA w _ rfl _ rfl _ h ⟨rfl, rfl, trivial⟩ _ (by decide) ?_
 refine CaseB.mk (fun h => ?_) (fun h => ?_)
 · have h1 : 2000 < xs.length := by simp at h; omega
   refine iG aA rfl rfl rfl rfl ⟨rfl, rfl⟩ rfl rfl z35 (0) (2000) ((xs.take 2000)).length rfl rfl z43 z43 z43 ?_
   refine retN [] ⟨?_, rfl⟩ rfl rfl rfl trivial rfl trivial
   simp [nW, sU, h1]
 · have h1 : ¬ 2000 < xs.length := by simp at h; omega
   refine retN [] ⟨?_, rfl⟩ rfl rfl rfl trivial rfl trivial
   simp [nW, sU, h1, List.take_of_length_le (show xs.length ≤ 2000 by omega)]
theorem eQ {w : World} {Q : Nat → Prop} {i : Sl} {xs : List UInt8} (h : (fSl true i 1 (cells iI xs) xs.length).P w ∧ ∀ b, (fSl true i 1 (cells iI xs) xs.length).foot b → Q b) :
   (fSl true (sU i xs) 1 (cells iI (xs.take 2000)) (xs.take 2000).length).P w ∧ ∀ b, (fSl true (sU i xs) 1 (cells iI (xs.take 2000)) (xs.take 2000).length).foot b → Q b := by
 unfold sU
 split
 · rename_i hl
   exact cB0 sT 0 2000 (by omega) (by omega) (by simp) h
 · rename_i hl
   rw [List.take_of_length_le (by omega)]
   exact h
theorem fY (t : Int) (w : World) : Calls Tryz.prog 170 #[.int .i64 t] w (Ret w fun v L => v = .bool (aZ t) ∧ L = []) := by
 refine bZ Tryz.func170 rfl aA w _ rfl _ rfl [] trivial trivial _ (by decide) ?_
 refine CaseB.mk (fun h => ?_) (fun h => ?_)
 all_goals
   refine aH ⟨?_, rfl⟩ (fun _ => rfl)
   simp [aZ] at h ⊢
   omega
theorem gF (t : Int) (w : World) : Calls Tryz.prog 146 #[.int .i64 t] w (Ret w fun v L => v = .bool (aV t) ∧ L = []) := by
 refine bZ Tryz.func146 rfl aA w _ rfl _ rfl [] trivial trivial _ (by decide) ?_
 refine CaseB.mk (fun h => ?_) (fun h => ?_)
 all_goals
   refine aH ⟨?_, rfl⟩ (fun _ => rfl)
   simp [aV] at h ⊢
   omega
def atM : List Int → Int → Int
 | [], _ => -1
 | x :: r, t => if x = t then 0 else (if atM r t < 0 then -1 else atM r t + 1)
theorem eR (xs : List Int) (t : Int) : 0 ≤ atM xs t ↔ t ∈ xs := by
 induction xs with
 | nil => simp [atM]
 | cons x r ih =>
   simp only [atM, List.mem_cons]
   split
   · rename_i h; simp [h]
   · rename_i h
     have h' : ¬ t = x := fun e => h e.symm
     simp only [h', false_or, ← ih]
     split <;> omega
theorem sV {xs : List Int} {t : Int} (h : t ∉ xs) : atM xs t = -1 := by
 induction xs with
 | nil => rfl
 | cons x r ih =>
   simp only [List.mem_cons, not_or] at h
   have := ih h.2
   simp only [atM]
   rw [if_neg (fun e => h.1 e.symm), if_pos (by omega)]
theorem aL0 {xs : List Int} {t : Int} {k : Nat} (hk : k < xs.length) (h : t ∉ xs.take k) (he : xs[k] = t) : atM xs t = (k : Int) := by
 induction xs generalizing k with
 | nil => simp at hk
 | cons x r ih =>
   cases k with
   | zero => simp at he; simp [atM, he]
   | succ k =>
     simp only [List.take_succ_cons, List.mem_cons, not_or] at h
     simp only [List.getElem_cons_succ] at he
     have := ih (by simpa using hk) h.2 he
     simp only [atM]
     rw [if_neg (fun e => h.1 e.symm), this, if_neg (by omega)]
     omega
theorem iB {xs : List Int} {t : Int} {k : Nat} (hk : k < xs.length) (h : t ∉ xs.take k) (he : xs[k] ≠ t) : t ∉ xs.take (k + 1) := by
 rw [List.take_succ_eq_append_getElem hk]
 simp only [List.mem_append, List.mem_singleton, not_or]
 exact ⟨h, fun e => he e.symm⟩
theorem kW (i : Sl) (xs : List Int) (t : Int) (w : World) (h : At w [slo i aJ 1 xs]) (hb : xs.length ≤ 4294967296) :
   Calls Tryz.prog 54 #[i.val xs.length, .int .i64 t] w (Ret w fun v L => v = .int .i64 (atM xs t) ∧ L = []) := by
 refine cB Tryz.func54 rfl aA w _ rfl _ rfl _ h ⟨rfl, rfl, trivial⟩ _ _ (by decide) ?_
 refine LoopW.mk ⟨{ k : Nat // k ≤ xs.length ∧ t ∉ xs.take k },
   fun p => .mk [(0, .v (i.val xs.length)), (1, .v (.int .i64 t)), (5, .v (.int .i64 p.1))] 0 0 [] [] [slo i aJ 1 xs],
   fun p => xs.length - p.1, ⟨0, Nat.zero_le _, by simp⟩, ?_, ?_⟩
 · exact aC [0] zw2 zw0 zw2 zw5 zw4 rfl rfl
 · rintro ⟨k, hk, he⟩
   refine CaseB.mk (fun h => ?_) (fun h => ?_)
   · have hlt : k < xs.length := by simpa using h
     refine aG aE aA rfl rfl rfl rfl rfl ⟨rfl, rfl⟩ z35 k rfl z43 (fun ad => ?_)
     refine CaseB.mk (fun h => ?_) (fun h => ?_)
     · have heq : xs[k] = t := by simpa using h
       exact aH ⟨congrArg (Value.int .i64) (aL0 hlt he heq).symm, rfl⟩ (fun _ => rfl)
     · have hne : xs[k] ≠ t := by simpa using h
       have hw := lK k _ hlt hb
       refine ⟨⟨k + 1, by omega, iB hlt he hne⟩, ?_, by simp; omega⟩
       exact aC [0] zw1 zw0 zw1 zw5 zw3 rfl rfl
   · have hge : xs.length ≤ k := by simpa using h
     rw [List.take_of_length_le hge] at he
     exact aH ⟨congrArg (Value.int .i64) (sV he).symm, rfl⟩ (fun _ => rfl)
theorem dZ0 (k n : Nat) (h : k < n) (hn : n ≤ 8589934592) : IntKind.i64.wrap ((k : Int) + 1) = ((k + 1 : Nat) : Int) := by
 rw [IntKind.wrap_i64]; omega
theorem mG0 (i : Sl) (xs : List Int) (t : Int) (w : World) (h : At w [slo i aJ 1 xs]) (hb : xs.length ≤ 8589934592) :
   Calls Tryz.prog 57 #[i.val xs.length, .int .i64 t] w (Ret w fun v L => v = .int .i64 (atM xs t) ∧ L = []) := by
 refine cB Tryz.func57 rfl aA w _ rfl _ rfl _ h ⟨rfl, rfl, trivial⟩ _ _ (by decide) ?_
 refine LoopW.mk ⟨{ k : Nat // k ≤ xs.length ∧ t ∉ xs.take k },
   fun p => .mk [(0, .v (i.val xs.length)), (1, .v (.int .i64 t)), (7, .v (.int .i64 xs.length)), (8, .v (.int .i64 p.1))] 0 0 [] [] [slo i aJ 1 xs],
   fun p => xs.length - p.1, ⟨0, Nat.zero_le _, by simp⟩, ?_, ?_⟩
 · exact aC [0] zw2 zw0 zw2 zw5 zw4 rfl rfl
 · rintro ⟨k, hk, he⟩
   refine CaseB.mk (fun h => ?_) (fun h => ?_)
   · have hlt : k < xs.length := by simpa using h
     refine aG aE aA rfl rfl rfl rfl rfl ⟨rfl, rfl⟩ z35 k rfl z43 (fun ad => ?_)
     refine CaseB.mk (fun h => ?_) (fun h => ?_)
     · have heq : xs[k] = t := by have : t = xs[k] := by simpa using h
                                  exact this.symm
       exact aH ⟨congrArg (Value.int .i64) (aL0 hlt he heq).symm, rfl⟩ (fun _ => rfl)
     · have hne : xs[k] ≠ t := fun e => by simp [e] at h
       have hw := dZ0 k _ hlt hb
       refine ⟨⟨k + 1, by omega, iB hlt he hne⟩, ?_, by simp; omega⟩
       exact aC [0] zw1 zw0 zw1 zw5 zw3 rfl rfl
   · have hge : xs.length ≤ k := by simpa using h
     rw [List.take_of_length_le hge] at he
     exact aH ⟨congrArg (Value.int .i64) (sV he).symm, rfl⟩ (fun _ => rfl)
theorem jM (i : Sl) (xs : List Int) (t : Int) (w : World) (h : At w [slo i aJ 1 xs]) (hb : xs.length ≤ 8589934592) :
   Calls Tryz.prog 63 #[i.val xs.length, .int .i64 t] w (Ret w fun v L => v = .bool (decide (t ∈ xs)) ∧ L = []) := by
 refine cB Tryz.func63 rfl aA w _ rfl _ rfl _ h ⟨rfl, rfl, trivial⟩ _ _ (by decide) ?_
 refine aB _ cl57 rfl rfl rfl rfl ⟨rfl, rfl⟩ (fun A w hW => mG0 i xs t w ⟨z34, trivial⟩ hb) ?_
 rintro v L ⟨rfl, rfl⟩
 refine aH ⟨?_, rfl⟩ (fun _ => rfl)
 simp [eR]
def bA (xs : List Int) : Bool := decide (xs.Nodup ∧ ∀ x ∈ xs, aZ x = true)
theorem wW (xs : List Int) (x : Int) : cL (xs.map fun y => (y, true)) x = if x ∈ xs then some true else none := by
 induction xs with
 | nil => simp [cL]
 | cons y r ih =>
   simp only [List.map_cons, cL, ih, List.mem_cons]
   by_cases h : y = x
   · simp [h]
   · have h' : ¬ x = y := fun e => h e.symm
     simp [h, h']
theorem jN0 (xs : List Int) (x : Int) (h : x ∉ xs) : fW (xs.map fun y => (y, true)) x true = (xs ++ [x]).map fun y => (y, true) := by
 rw [qR true (by have := wW xs x; rw [if_neg h, wS] at this; cases hi : lJ (xs.map fun y => (y, true)) x <;> simp [hi] at this; rfl)]
 simp
theorem lW {xs : List Int} {k : Nat} (hk : k < xs.length) : (xs.take (k + 1)).Nodup ↔ (xs.take k).Nodup ∧ xs[k] ∉ xs.take k := by
 rw [List.take_succ_eq_append_getElem hk, List.nodup_append]
 simp only [List.nodup_cons, List.not_mem_nil, not_false_eq_true, List.nodup_nil, and_self, List.mem_singleton, ne_eq, true_and]
 constructor
 · rintro ⟨h1, h2⟩
   exact ⟨h1, fun h => h2 _ h _ rfl rfl⟩
 · rintro ⟨h1, h2⟩
   exact ⟨h1, fun a ha b hb e => h2 (by rw [← hb, ← e]; exact ha)⟩
theorem nG {xs : List Int} {k : Nat} (hk : k < xs.length) (h : aZ xs[k] = false ∨ xs[k] ∈ xs.take k) : bA xs = false := by
 simp only [bA, decide_eq_false_iff_not]
 rintro ⟨h1, h2⟩
 rcases h with h | h
 · rw [h2 _ (List.getElem_mem hk)] at h; cases h
 · exact ((lW hk).1 (h1.sublist (List.take_sublist _ _))).2 h
def venB (b : Bool) : Value := .bool b
theorem fK (i : Sl) (xs : List Int) (w : World) (h : At w [slo i aJ 1 xs]) (hb : xs.length ≤ 8589934592) :
   Calls Tryz.prog 165 #[i.val xs.length] w (Ret w fun v L => v = .bool (bA xs) ∧ L = []) := by
 refine bZ Tryz.func165 rfl aA w _ rfl _ rfl _ h ⟨rfl, rfl, trivial⟩ _ (by decide) ?_
 refine oR venB rfl ⟨rfl, rfl⟩ (fun r => ?_)
 refine LoopW.mk ⟨{ k : Nat // k ≤ xs.length ∧ (xs.take k).Nodup ∧ ∀ x ∈ xs.take k, aZ x = true },
   fun p => .mk [(3, .v (.map (some r))), (7, .v (i.val xs.length)), (8, .v (.int .i64 xs.length)), (9, .v (.int .i64 p.1))] 0 0 [] [] [kD r venB ((xs.take p.1).map fun y => (y, true)), slo i aJ 1 xs],
   fun p => xs.length - p.1, ⟨0, Nat.zero_le _, by simp, by simp⟩, ?_, ?_⟩
 · exact aC [0, 1] zw2 zw0 zw2 zw5 zw4 rfl rfl
 · rintro ⟨k, hk, hn, ha⟩
   refine CaseB.mk (fun h => ?_) (fun h => ?_)
   · have hlt : k < xs.length := by simpa using h
     refine aG aE aA rfl rfl rfl rfl rfl ⟨rfl, rfl⟩ z35 k rfl z43 (fun ad => ?_)
     refine aB _ sO rfl rfl rfl rfl ⟨rfl, rfl⟩ (fun A w hW => gS _ w) ?_
     rintro v L ⟨rfl, rfl⟩
     refine CaseB.mk (fun h => ?_) (fun h => ?_)
     · have h1 : aZ xs[k] = false := by simpa using h
       exact aH ⟨congrArg Value.bool (nG hlt (.inl h1)).symm, rfl⟩ (fun _ => rfl)
     · have h1 : aZ xs[k] = true := by simpa using h
       by_cases hm : xs[k] ∈ xs.take k
       · refine vE 0 (qk := .i64) (kt := 3) (et := 4) (z := (.bool false)) rfl rfl rfl rfl ⟨rfl, rfl⟩ z102 z102 z102 (.bool true) (by rw [wW, if_pos hm]; rfl) ?_
         refine CaseB.mk (fun h => ?_) (fun h => by cases h)
         exact aH ⟨congrArg Value.bool (nG hlt (.inr hm)).symm, rfl⟩ (fun _ => rfl)
       · refine vE 0 (qk := .i64) (kt := 3) (et := 4) (z := (.bool false)) rfl rfl rfl rfl ⟨rfl, rfl⟩ z102 z102 z102 (.bool false) (by rw [wW, if_neg hm]) ?_
         refine CaseB.mk (fun h => by cases h) (fun h => ?_)
         have hT : xs.take (k + 1) = xs.take k ++ [xs[k]] := List.take_succ_eq_append_getElem hlt
         refine bY0 0 true (qk := .i64) (kt := 3) (et := 4) rfl rfl rfl rfl (fun _ => rfl) rfl rfl z102 z102 ((xs.take (k + 1)).map fun y => (y, true)) (by rw [jN0 _ _ hm, hT]) ?_
         have hw := dZ0 k _ hlt hb
         refine ⟨⟨k + 1, by omega, (lW hlt).2 ⟨hn, hm⟩, ?_⟩, ?_, by simp; omega⟩
         · intro x hx
           rw [hT] at hx
           rcases List.mem_append.1 hx with hx | hx
           · exact ha x hx
           · simp at hx; subst hx; exact h1
         · exact aC [0, 1] zw1 zw0 zw1 zw5 zw3 rfl rfl
   · have hge : xs.length ≤ k := by simpa using h
     rw [List.take_of_length_le hge] at hn ha
     refine aH ⟨?_, rfl⟩ (fun _ => rfl)
     simp only [bA, Value.bool.injEq]
     exact (decide_eq_true ⟨hn, ha⟩).symm
end Go.Proofs.YtijmjecehppbfaaGreat
