/- FnFormatState: texts that its proof stands on, part 4. -/
import Derived.Laws.IdiomStrings
import Derived.Laws.Strings2
import Derived.Laws.Slices
import Derived.Laws.Concat
import Derived.Lib.Join
import Derived.Lib.ItoaNum
import Derived.KernelRfl
import Derived.Test.YtchkcjeeknfchaaGreatDoorQFormatStatec
namespace Go.Proofs.YtchkcjeeknfchaaGreatDoor
set_option maxRecDepth 100000
set_option maxHeartbeats 100000000
open Go Go.Sx Go.RowKit
theorem sU {xs ys : List Int} (h : xs.Nodup) (hs : ∀ x ∈ xs, x ∈ ys) : xs.length ≤ ys.length := by
 induction xs generalizing ys with
 | nil => simp
 | cons x r ih =>
   have hx := hs x (by simp)
   rw [List.nodup_cons] at h
   have := ih (ys := ys.erase x) h.2 (fun y hy => (List.mem_erase_of_ne (fun e => h.1 (by subst e; exact hy))).2 (hs y (by simp [hy])))
   rw [List.length_erase_of_mem hx] at this
   have : 0 < ys.length := List.length_pos_of_mem hx
   simp only [List.length_cons]
   omega
theorem cJ {xs : List Int} (h : aS xs = true) : xs.length ≤ 6 := by
 simp only [aS, decide_eq_true_eq] at h
 have hs : ∀ x ∈ xs, x ∈ ([0, 1, 2, 3, 4, 5] : List Int) := fun x hx => by
   have := h.2 x hx
   simp [aW] at this
   simp
   omega
 exact sU h.1 hs
theorem wN {xs : List Int} (h : (xs.take 7).Nodup ∧ ∀ x ∈ xs.take 7, aW x = true) : xs.length ≤ 6 := by
 have hd : aS (xs.take 7) = true := by simpa [aS] using h
 have := cJ hd
 simp at this
 omega
theorem pP (i : Sl) (xs : List Int) (w : World) (h : At w [slo i aL 1 xs]) (hb : xs.length ≤ 8589934592) :
   Calls Tryz.prog 123 #[i.val xs.length] w (Ret w fun v L => v = .bool (aS xs) ∧ L = []) := by
 refine bU Tryz.func123 rfl aA w _ rfl _ rfl _ h ⟨rfl, rfl, trivial⟩ _ (by decide) ?_
 refine LoopW.mk ⟨{ k : Nat // k ≤ xs.length ∧ k ≤ 7 ∧ (xs.take k).Nodup ∧ ∀ x ∈ xs.take k, aW x = true },
   fun p => .mk [(0, .v (i.val xs.length)), (3, .v (.int .i64 p.1))] 0 0 [] [] [slo i aL 1 xs],
   fun p => xs.length - p.1, ⟨0, Nat.zero_le _, by omega, by simp, by simp⟩, ?_, ?_⟩
 · exact aC [0] zw2 zw0 zw2 zw5 zw4 rfl rfl
 · rintro ⟨k, hk, hk7, hn, ha⟩
   have hfin : ¬ (k < xs.length ∧ k ≤ 6) → decide ((xs.length : Int) ≤ 6) = aS xs := by
     intro hc
     rcases Nat.lt_or_ge k xs.length with h1 | h1
     · have e : k = 7 := by omega
       subst e
       have := wN ⟨hn, ha⟩
       omega
     · rw [List.take_of_length_le h1] at hn ha
       have hd : aS xs = true := by simp only [aS, decide_eq_true_eq]; exact ⟨hn, ha⟩
       have := cJ hd
       rw [hd, decide_eq_true_eq]
       omega
   refine CaseB.mk (fun h => ?_) (fun h => ?_)
   · have hlt : k < xs.length := by simpa using h
     refine CaseB.mk (fun h => ?_) (fun h => ?_)
     · have h6 : k ≤ 6 := by simp at h; omega
       refine aH aA z88 z88 z88 200 [] [0] [_] trivial trivial ⟨rfl, trivial⟩ rfl ?_
       refine bM (ti := aZ tab) aI aA rfl rfl rfl rfl rfl ⟨rfl, rfl⟩ z31 k rfl z37 (fun ad => ?_)
       refine bV _ oS rfl rfl rfl rfl ⟨rfl, rfl⟩ (fun A w hW => eC _ w) ?_
       rintro v L ⟨rfl, rfl⟩
       refine CaseB.mk (fun h => ?_) (fun h => ?_)
       · have h1 : aW xs[k] = false := by simpa using h
         exact aG ⟨congrArg Value.bool (lR hlt (.inl h1)).symm, rfl⟩ (fun _ => rfl)
       · have h1 : aW xs[k] = true := by simpa using h
         refine d_cut (ti := aZ tab) aA rfl rfl rfl rfl ⟨rfl, rfl⟩ rfl rfl z31 (0) (k) ((xs.take k)).length rfl rfl z37 z37 z37 ?_
         refine bM (ti := aZ tab) aI aA rfl rfl rfl rfl rfl ⟨rfl, rfl⟩ z31 k rfl z37 (fun ad => ?_)
         refine bV _ lO rfl rfl rfl rfl ⟨rfl, rfl⟩ (fun A w hW => iT (i.cut 0 1) (xs.take k) _ w ⟨lC0 aI 0 k (by omega) (by omega) (by simp) (hW.rd 0 rfl), trivial⟩ z87) ?_
         rintro v L ⟨rfl, rfl⟩
         refine CaseB.mk (fun h => ?_) (fun h => ?_)
         · have hm : xs[k] ∈ xs.take k := (dU _ _).1 z83
           exact aG ⟨congrArg Value.bool (lR hlt (.inr hm)).symm, rfl⟩ (fun _ => rfl)
         · have hm : ¬ xs[k] ∈ xs.take k := fun hm => by have := (dU _ _).2 hm; simp at h; omega
           have hT : xs.take (k + 1) = xs.take k ++ [xs[k]] := List.take_succ_eq_append_getElem hlt
           have hw := bS0 k _ hlt hb
           refine ⟨⟨k + 1, by omega, by omega, (kB hlt).2 ⟨hn, hm⟩, gZ hlt ha h1⟩, ?_, by simp; omega⟩
           exact aC [0] zw1 zw0 zw1 zw5 zw3 rfl rfl
     · have h6 : ¬ k ≤ 6 := by simp at h; omega
       exact aG ⟨congrArg Value.bool (hfin (fun h => h6 h.2)), rfl⟩ (fun _ => rfl)
   · have hlt : ¬ k < xs.length := by simpa using h
     exact aG ⟨congrArg Value.bool (hfin (fun h => hlt h.1)), rfl⟩ (fun _ => rfl)
theorem xJ (m : Chan) (i s g : Sl) (t : Int) (w : World) (h : At w [slo i aL 1 m.items, slo s jY 2 m.senders, slo g aL 1 m.getters]) (hb : m.small) (h7 : m.senders.length ≤ 7) :
   Calls Tryz.prog 184 #[kZ m i s g, .int .i64 t] w (Ret w fun v L => v = .bool (decide (t ∈ m.threads)) ∧ L = []) := by
 obtain ⟨b1, b2, b3⟩ := hb
 have e7 : m.senders.take 7 = m.senders := List.take_of_length_le h7
 refine cN Tryz.func184 rfl aA w _ rfl _ rfl _ h z112 _ _ (by decide) ?_
 refine aB _ jM0 rfl rfl rfl rfl ⟨rfl, rfl⟩ (fun A w hW => lT s m.senders w ⟨z30, trivial⟩ b2) ?_
 rw [e7]
 rintro v L ⟨y, rfl, rfl⟩
 refine aB _ lO rfl rfl rfl rfl ⟨rfl, rfl⟩ (fun A w hW => iT y (m.senders.map Letter.t) t w ⟨z30, trivial⟩ z87) ?_
 rintro v L ⟨rfl, rfl⟩
 refine CaseB.mk (fun h => ?_) (fun h => ?_)
 · have hm : t ∈ m.senders.map Letter.t := (dU _ _).1 z83
   refine aG ⟨?_, rfl⟩ (fun _ => rfl)
   simp [Chan.threads]
   exact .inl (by simpa using hm)
 · have hm : ¬ t ∈ m.senders.map Letter.t := fun hm => by have := (dU _ _).2 hm; simp at h; omega
   refine aB _ lO rfl rfl rfl rfl ⟨rfl, rfl⟩ (fun A w hW => iT g m.getters t w ⟨z30, trivial⟩ b3) ?_
   rintro v L ⟨rfl, rfl⟩
   refine aG ⟨?_, rfl⟩ (fun _ => rfl)
   have e : (t ∈ m.threads) ↔ t ∈ m.getters := by simp only [Chan.threads, List.mem_append]; exact ⟨fun h => h.resolve_left hm, .inr⟩
   simp [e, dU]
structure SemOk (m : Sem) : Prop where
 l1 : 1 ≤ m.limit
 l9 : m.limit ≤ 9
 f0 : 0 ≤ m.free
 fl : m.free ≤ m.limit
 q6 : m.queue.length ≤ 6
 cnt : ∀ w ∈ m.queue, 1 ≤ w.n ∧ w.n ≤ m.limit
 dis : aS (m.queue.map (·.t)) = true
 hd : ∀ w, m.queue[0]? = some w → m.free < w.n
def cS (m : Once) : Prop := (m.state = 0 ∧ m.owner = 0 ∧ m.value = 0 ∧ m.waits = []) ∨ (m.state = 1 ∧ aW m.owner = true ∧ m.value = 0 ∧ aS m.waits = true ∧ m.owner ∉ m.waits) ∨ (m.state = 2 ∧ aW m.owner = true ∧ aR m.value = true ∧ m.waits = [])
def fE (m : Group) : Prop := aR m.count = true ∧ aS m.waits = true ∧ (0 < m.count ∨ m.waits = [])
def dE (m : Barrier) : Prop := 1 ≤ m.parties ∧ m.parties ≤ 6 ∧ 0 ≤ m.round ∧ m.round ≤ 9999 ∧ (m.waits.length : Int) < m.parties ∧ aS m.waits = true
theorem uK {m : Once} (h : m.state = 0) : cS m ↔ m.owner = 0 ∧ m.value = 0 ∧ m.waits = [] := by simp [cS, h]
theorem jI {m : Once} (h : m.state = 1) : cS m ↔ aW m.owner = true ∧ m.value = 0 ∧ aS m.waits = true ∧ m.owner ∉ m.waits := by simp [cS, h]
theorem uL {m : Once} (h : m.state = 2) : cS m ↔ aW m.owner = true ∧ aR m.value = true ∧ m.waits = [] := by simp [cS, h]
theorem dS0 {m : Once} (h0 : ¬ m.state = 0) (h1 : ¬ m.state = 1) (h2 : ¬ m.state = 2) : ¬ cS m := by simp [cS, h0, h1, h2]
theorem aI0 (m : Once) (q : Sl) (w : World) (h : At w [slo q aL 1 m.waits]) (hb : m.waits.length ≤ 1048576) :
   Calls Tryz.prog 46 #[lV m q] w (gC w (cS m)) := by
 refine bU Tryz.func46 rfl aA w _ rfl _ rfl _ h ⟨rfl, rfl, trivial⟩ _ (by decide) ?_
 refine CaseB.mk (fun k => ?_) (fun k0 => ?_)
 · have hx := uK (m := m) z84
   apply CaseB.mk <;> intro g
   rotate_left
   · have q : ¬ (m.owner = 0) := by simpa using g
     exact aG ⟨_, rfl, tno fun e => q (hx.1 e).1, rfl⟩ (fun _ => rfl)
   have c1 : m.owner = 0 := by simpa using g
   apply CaseB.mk <;> intro g
   rotate_left
   · have q : ¬ (m.value = 0) := by simpa using g
     exact aG ⟨_, rfl, tno fun e => q (hx.1 e).2.1, rfl⟩ (fun _ => rfl)
   have c2 : m.value = 0 := by simpa using g
   exact aG ⟨_, rfl, by rw [hx]; simp [c1, c2], rfl⟩ (fun _ => rfl)
 refine CaseB.mk (fun k => ?_) (fun k1 => ?_)
 · have hx := jI (m := m) z84
   refine aB _ lV0 rfl rfl rfl rfl ⟨rfl, rfl⟩ (fun A w hW => qL _ w) ?_
   rintro v L ⟨rfl, rfl⟩
   apply CaseB.mk <;> intro g
   rotate_left
   · have q : ¬ (aW m.owner = true) := by simpa using g
     exact aG ⟨_, rfl, tno fun e => q (hx.1 e).1, rfl⟩ (fun _ => rfl)
   have c1 : aW m.owner = true := g
   apply CaseB.mk <;> intro g
   rotate_left
   · have q : ¬ (m.value = 0) := by simpa using g
     exact aG ⟨_, rfl, tno fun e => q (hx.1 e).2.1, rfl⟩ (fun _ => rfl)
   have c2 : m.value = 0 := by simpa using g
   apply CaseB.mk <;> intro g
   rotate_left
   · have q : ¬ (m.waits.length ≤ 6) := by have g' := of_decide_eq_false g; omega
     exact aG ⟨_, rfl, tno fun e => q (cJ (hx.1 e).2.2.1), rfl⟩ (fun _ => rfl)
   have c6 : m.waits.length ≤ 6 := by have g' := of_decide_eq_true g; omega
   refine aB _ gI0 rfl rfl rfl rfl ⟨rfl, rfl⟩ (fun A w hW => eO q m.waits w ⟨z30, trivial⟩ (by omega)) ?_
   rintro v L ⟨rfl, rfl⟩
   apply CaseB.mk <;> intro g
   rotate_left
   · have q : ¬ (aS m.waits = true) := by simpa using g
     exact aG ⟨_, rfl, tno fun e => q (hx.1 e).2.2.1, rfl⟩ (fun _ => rfl)
   have c3 : aS m.waits = true := g
   refine aB _ cl88 rfl rfl rfl rfl ⟨rfl, rfl⟩ (fun A w hW => bT0 q m.waits m.owner w ⟨z30, trivial⟩ (by omega)) ?_
   rintro v L ⟨rfl, rfl⟩
   exact aG ⟨_, rfl, by rw [hx]; simp [c1, c2, c3], rfl⟩ (fun _ => rfl)
 refine CaseB.mk (fun k => ?_) (fun k2 => ?_)
 · have hx := uL (m := m) z84
   refine aB _ lV0 rfl rfl rfl rfl ⟨rfl, rfl⟩ (fun A w hW => qL _ w) ?_
   rintro v L ⟨rfl, rfl⟩
   apply CaseB.mk <;> intro g
   rotate_left
   · have q : ¬ (aW m.owner = true) := by simpa using g
     exact aG ⟨_, rfl, tno fun e => q (hx.1 e).1, rfl⟩ (fun _ => rfl)
   have c1 : aW m.owner = true := g
   refine aB _ aB0 rfl rfl rfl rfl ⟨rfl, rfl⟩ (fun A w hW => iC _ w) ?_
   rintro v L ⟨rfl, rfl⟩
   apply CaseB.mk <;> intro g
   rotate_left
   · have q : ¬ (aR m.value = true) := by simpa using g
     exact aG ⟨_, rfl, tno fun e => q (hx.1 e).2.1, rfl⟩ (fun _ => rfl)
   have c2 : aR m.value = true := g
   exact aG ⟨_, rfl, by rw [hx]; simp [c1, c2], rfl⟩ (fun _ => rfl)
 exact aG ⟨_, rfl, tno (dS0 (by simpa using k0) (by simpa using k1) (by simpa using k2)), rfl⟩ (fun _ => rfl)
theorem yQ (m : Group) (q : Sl) (w : World) (h : At w [slo q aL 1 m.waits]) (hb : m.waits.length ≤ 1048576) :
   Calls Tryz.prog 43 #[mJ m q] w (gC w (fE m)) := by
 refine bU Tryz.func43 rfl aA w _ rfl _ rfl _ h ⟨rfl, rfl, trivial⟩ _ (by decide) ?_
 refine aB _ aB0 rfl rfl rfl rfl ⟨rfl, rfl⟩ (fun A w hW => iC _ w) ?_
 rintro v L ⟨rfl, rfl⟩
 apply CaseB.mk <;> intro g
 rotate_left
 · have q : ¬ (aR m.count = true) := by simpa using g
   exact aG ⟨_, rfl, tno fun e => q e.1, rfl⟩ (fun _ => rfl)
 have c1 : aR m.count = true := g
 apply CaseB.mk <;> intro g
 rotate_left
 · have q : ¬ (m.waits.length ≤ 6) := by have g' := of_decide_eq_false g; omega
   exact aG ⟨_, rfl, tno fun e => q (cJ e.2.1), rfl⟩ (fun _ => rfl)
 have c6 : m.waits.length ≤ 6 := by have g' := of_decide_eq_true g; omega
 refine aB _ gI0 rfl rfl rfl rfl ⟨rfl, rfl⟩ (fun A w hW => eO q m.waits w ⟨z30, trivial⟩ (by omega)) ?_
 rintro v L ⟨rfl, rfl⟩
 apply CaseB.mk <;> intro g
 rotate_left
 · have q : ¬ (aS m.waits = true) := by simpa using g
   exact aG ⟨_, rfl, tno fun e => q e.2.1, rfl⟩ (fun _ => rfl)
 have c2 : aS m.waits = true := g
 apply CaseB.mk <;> intro g
 · have c3 : 0 < m.count := by have g' := of_decide_eq_true g; omega
   exact aG ⟨_, rfl, vR ⟨c1, c2, .inl c3⟩, rfl⟩ (fun _ => rfl)
 · have c3 : ¬ 0 < m.count := by have g' := of_decide_eq_false g; omega
   exact aG ⟨_, rfl, by simp [fE, c1, c2, c3], rfl⟩ (fun _ => rfl)
theorem vT (m : Barrier) (q : Sl) (w : World) (h : At w [slo q aL 1 m.waits]) (hb : m.waits.length ≤ 1048576) :
   Calls Tryz.prog 44 #[lD m q] w (gC w (dE m)) := by
 refine bU Tryz.func44 rfl aA w _ rfl _ rfl _ h ⟨rfl, rfl, trivial⟩ _ (by decide) ?_
 apply CaseB.mk <;> intro g
 rotate_left
 · have q : ¬ (1 ≤ m.parties) := by have g' := of_decide_eq_false g; omega
   exact aG ⟨_, rfl, tno fun e => q e.1, rfl⟩ (fun _ => rfl)
 have c1 : 1 ≤ m.parties := by have g' := of_decide_eq_true g; omega
 apply CaseB.mk <;> intro g
 rotate_left
 · have q : ¬ (m.parties ≤ 6) := by have g' := of_decide_eq_false g; omega
   exact aG ⟨_, rfl, tno fun e => q e.2.1, rfl⟩ (fun _ => rfl)
 have c2 : m.parties ≤ 6 := by have g' := of_decide_eq_true g; omega
 apply CaseB.mk <;> intro g
 rotate_left
 · have q : ¬ (0 ≤ m.round) := by have g' := of_decide_eq_false g; omega
   exact aG ⟨_, rfl, tno fun e => q e.2.2.1, rfl⟩ (fun _ => rfl)
 have c3 : 0 ≤ m.round := by have g' := of_decide_eq_true g; omega
 apply CaseB.mk <;> intro g
 rotate_left
 · have q : ¬ (m.round ≤ 9999) := by have g' := of_decide_eq_false g; omega
   exact aG ⟨_, rfl, tno fun e => q e.2.2.2.1, rfl⟩ (fun _ => rfl)
 have c4 : m.round ≤ 9999 := by have g' := of_decide_eq_true g; omega
 apply CaseB.mk <;> intro g
 rotate_left
 · have q : ¬ ((m.waits.length : Int) < m.parties) := by have g' := of_decide_eq_false g; omega
   exact aG ⟨_, rfl, tno fun e => q e.2.2.2.2.1, rfl⟩ (fun _ => rfl)
 have c5 : (m.waits.length : Int) < m.parties := by have g' := of_decide_eq_true g; omega
 refine aB _ gI0 rfl rfl rfl rfl ⟨rfl, rfl⟩ (fun A w hW => eO q m.waits w ⟨z30, trivial⟩ (by omega)) ?_
 rintro v L ⟨rfl, rfl⟩
 exact aG ⟨_, rfl, by simp [dE, c1, c2, c3, c4, c5], rfl⟩ (fun _ => rfl)
theorem cA0 (m : Sem) (q : Sl) (w : World) (h : At w [slo q dL 2 m.queue]) (hb : m.queue.length ≤ 1048576) :
   Calls Tryz.prog 42 #[rK m q] w (gC w (SemOk m)) := by
 refine bU Tryz.func42 rfl aA w _ rfl _ rfl _ h ⟨rfl, rfl, trivial⟩ _ (by decide) ?_
 apply CaseB.mk <;> intro g
 · have q : ¬ (1 ≤ m.limit) := by have g' := of_decide_eq_true g; omega
   exact aG ⟨_, rfl, tno fun e => q e.l1, rfl⟩ (fun _ => rfl)
 have c1 : 1 ≤ m.limit := by have g' := of_decide_eq_false g; omega
 apply CaseB.mk <;> intro g
 · have q : ¬ (m.limit ≤ 9) := by have g' := of_decide_eq_true g; omega
   exact aG ⟨_, rfl, tno fun e => q e.l9, rfl⟩ (fun _ => rfl)
 have c2 : m.limit ≤ 9 := by have g' := of_decide_eq_false g; omega
 apply CaseB.mk <;> intro g
 · have q : ¬ (0 ≤ m.free) := by have g' := of_decide_eq_true g; omega
   exact aG ⟨_, rfl, tno fun e => q e.f0, rfl⟩ (fun _ => rfl)
 have c3 : 0 ≤ m.free := by have g' := of_decide_eq_false g; omega
 apply CaseB.mk <;> intro g
 · have q : ¬ (m.free ≤ m.limit) := by have g' := of_decide_eq_true g; omega
   exact aG ⟨_, rfl, tno fun e => q e.fl, rfl⟩ (fun _ => rfl)
 have c4 : m.free ≤ m.limit := by have g' := of_decide_eq_false g; omega
 apply CaseB.mk <;> intro g
 · have q : ¬ (m.queue.length ≤ 6) := by have g' := of_decide_eq_true g; omega
   exact aG ⟨_, rfl, tno fun e => q e.q6, rfl⟩ (fun _ => rfl)
 have c5 : m.queue.length ≤ 6 := by have g' := of_decide_eq_false g; omega
 refine LoopW.mk ⟨{ p : Nat × Sl // p.1 ≤ m.queue.length ∧ ∀ w ∈ m.queue.take p.1, 1 ≤ w.n ∧ w.n ≤ m.limit },
   fun p => .mk [(1, .p 0 0), (3, .v (p.1.2.val ((m.queue.map (·.t)).take p.1.1).length)), (33, .v (q.val m.queue.length)), (34, .v (.int .i64 (m.queue.length : Int))), (35, .v (.int .i64 (p.1.1 : Int)))] 1 0 [(0, 85, 3)] [((0, 0), .v (.int .i64 m.free)), ((0, 1), .v (.int .i64 m.limit)), ((0, 2), .v (q.val m.queue.length))] [own p.1.2 3 aL 1 ((m.queue.map (·.t)).take p.1.1), slo q dL 2 m.queue],
   fun p => m.queue.length - p.1.1, ⟨(0, ⟨none, 0⟩), Nat.zero_le _, by simp⟩, ?_, ?_⟩
 · exact aC [99, 0] zw2 zw0 zw2 zw5 zw4 rfl rfl
 rintro ⟨⟨k, a⟩, hk, hinv⟩
 simp only at hk hinv
 apply CaseB.mk <;> intro g
 · have hlt : k < m.queue.length := by simpa using g
   have hw := oD k _ hlt (by omega)
   refine aF cW aA rfl rfl rfl rfl rfl ⟨rfl, rfl⟩ (gN 1 rfl) k rfl z37 (fun ad => ?_)
   apply CaseB.mk <;> intro g
   · have q : ¬ (1 ≤ (m.queue[k]).n) := by have g' := of_decide_eq_true g; omega
     exact aG ⟨_, rfl, tno fun e => q (e.cnt _ (List.getElem_mem hlt)).1, rfl⟩ (fun _ => rfl)
   have d1 : 1 ≤ (m.queue[k]).n := by have g' := of_decide_eq_false g; omega
   apply CaseB.mk <;> intro g
   · have q : ¬ ((m.queue[k]).n ≤ m.limit) := by have g' := of_decide_eq_true g; omega
     exact aG ⟨_, rfl, tno fun e => q (e.cnt _ (List.getElem_mem hlt)).2, rfl⟩ (fun _ => rfl)
   have d2 : (m.queue[k]).n ≤ m.limit := by have g' := of_decide_eq_false g; omega
   refine AllSl.mk fun u => ?_
   refine bR aI 1 aA (ys := [(m.queue[k]).t]) rfl rfl rfl rfl rfl rfl rfl rfl rfl (by decide) ⟨rfl, rfl⟩ rfl z31 z37 z37 (fun a2 => ?_)
   rw [bL hlt rfl rfl]
   refine ⟨⟨(k + 1, a2), by omega, fun x hx => ?_⟩, ?_, by simp only; omega⟩
   · rw [List.take_succ_eq_append_getElem hlt] at hx
     rcases List.mem_append.1 hx with hx | hx
     · exact hinv x hx
     · simp at hx; subst hx; exact ⟨d1, d2⟩
   · exact aC [0, 2] zw1 zw0 zw1 zw5 zw3 rfl rfl
 have hge : m.queue.length ≤ k := by simpa using g
 rw [List.take_of_length_le hge] at hinv
 have eT : (m.queue.map (·.t)).take k = m.queue.map (·.t) := List.take_of_length_le z79
 simp only [eT]
 refine aH aA z88 z88 z88 200 [((0, 0), .v (.int .i64 m.free)), ((0, 1), .v (.int .i64 m.limit)), ((0, 2), .v (q.val m.queue.length))] [1] [_] z102 z113 ⟨rfl, trivial⟩ rfl ?_
 refine bV _ gI0 rfl rfl rfl rfl ⟨rfl, rfl⟩ (fun A w hW => eO a _ w ⟨hW.rdOwn 0 rfl, trivial⟩ z87) ?_
 rintro v L ⟨rfl, rfl⟩
 apply CaseB.mk <;> intro g
 rotate_left
 · have q : ¬ (aS (m.queue.map (·.t)) = true) := by simpa using g
   exact aG ⟨_, rfl, tno fun e => q e.dis, rfl⟩ (fun _ => rfl)
 have c6 : aS (m.queue.map (·.t)) = true := g
 apply CaseB.mk <;> intro g
 · have c7 : m.queue = [] := by simpa using g
   exact aG ⟨_, rfl, vR ⟨c1, c2, c3, c4, c5, hinv, c6, by rw [c7]; simp⟩, rfl⟩ (fun _ => rfl)
 have c7 : 0 < m.queue.length := by have g' : ¬ m.queue = [] := by simpa using g
                                    exact List.length_pos_iff.2 g'
 refine bM (ti := aZ tab) cW aA rfl rfl rfl rfl rfl ⟨rfl, rfl⟩ (gN 0 rfl) 0 rfl z37 (fun ad => ?_)
 refine aG ⟨_, rfl, ?_, rfl⟩ (fun _ => rfl)
 have hh : ∀ w, m.queue[0]? = some w → w = m.queue[0] := fun w hw => by rw [List.getElem?_eq_getElem c7] at hw; injection hw with hw; exact hw.symm
 constructor
 · intro g
   have g' := of_decide_eq_true g
   exact ⟨c1, c2, c3, c4, c5, hinv, c6, fun w hw => by rw [hh w hw]; omega⟩
 · intro e
   have := e.hd _ (List.getElem?_eq_getElem c7)
   exact decide_eq_true (by omega)
theorem eP0 (p : ProgH) (o : Op) (w : World) (h : At w [fR (bD p)]) :
   Calls Tryz.prog 84 #[eJ p, .agg (cOp o).toArray] w (gC w (OpOk p.pure o)) := by
 refine cN Tryz.func84 rfl aA w _ rfl _ rfl _ h ⟨rfl, rfl, trivial⟩ _ _ (by decide) ?_
 refine CaseB.mk (fun k1 => ?_) (fun k1 => ?_)
 · have hx := gW0 (p := p.pure) (o := o) (by simpa using k1)
   apply CaseB.mk <;> intro g
   · have g' : o.on = 0 := by simpa using g
     refine aB _ aB0 rfl rfl rfl rfl ⟨rfl, rfl⟩ (fun A w hW => iC _ w) ?_
     rintro v L ⟨rfl, rfl⟩
     exact aG ⟨_, rfl, by rw [hx]; simp [g'], rfl⟩ (fun _ => rfl)
   · have g' : ¬ o.on = 0 := by simpa using g
     exact aG ⟨_, rfl, tno fun e => g' (hx.1 e).1, rfl⟩ (fun _ => rfl)
 refine CaseB.mk (fun k2 => ?_) (fun k2 => ?_)
 · refine CaseB.mk (fun _ => ?_) (fun g => by rw [k2] at g; cases g)
   have hx := gX0 (p := p.pure) (o := o) (.inl (by simpa using k2))
   refine aH aA z88 z88 z88 200 [((0, 0), .v (p.h0.val p.sems.length)), ((1, 0), .v (.int .i64 o.kind)), ((1, 1), .v (.int .i64 o.on)), ((1, 2), .v (.int .i64 o.arg))] [0] [_] z98 z110 ⟨rfl, trivial⟩ rfl ?_
   refine bV _ tI rfl rfl rfl rfl ⟨rfl, rfl⟩ (fun A w hW => pA p.h0 p.sems.length o (A 1) w ⟨hW.var rfl rfl, trivial⟩) ?_
   rintro v L ⟨b, rfl, hb, rfl⟩
   refine CaseB.mk (fun g1 => ?_) (fun g1 => ?_)
   · obtain ⟨c1, c2⟩ := hb.1 g1
     have hlt : o.on.toNat < p.sems.length := by omega
     have e : p.pure.sems.getD o.on.toNat 0 = p.sems[o.on.toNat] := by simp [ProgH.pure, List.getD, hlt]
     refine CaseB.mk (fun g2 => ?_) (fun g2 => ?_)
     · have c3 : 1 ≤ o.arg := by simp at g2; omega
       refine bM (ti := aZ tab) aI aA rfl rfl rfl rfl rfl ⟨rfl, rfl⟩ (aN 0 rfl (.ofR (fA p))) o.on.toNat (by omega) z37 (fun ad => ?_)
       refine aG ⟨_, rfl, ?_, rfl⟩ (fun _ => rfl)
       rw [hx, e]
       show _ ↔ (0 ≤ o.on ∧ o.on < (p.sems.length : Int)) ∧ _
       simp [c1, c2, c3]
     · have c3 : ¬ 1 ≤ o.arg := by simp at g2; omega
       exact aG ⟨_, rfl, tno fun e => c3 (hx.1 e).2.1, rfl⟩ (fun _ => rfl)
   · exact aG ⟨_, rfl, tno fun e => z71, rfl⟩ (fun _ => rfl)
 refine CaseB.mk (fun k3 => ?_) (fun k3 => ?_)
 · skip
   have hx := gX0 (p := p.pure) (o := o) (.inr (by simpa using k3))
   refine aH aA z88 z88 z88 200 [((0, 0), .v (p.h0.val p.sems.length)), ((1, 0), .v (.int .i64 o.kind)), ((1, 1), .v (.int .i64 o.on)), ((1, 2), .v (.int .i64 o.arg))] [0] [_] z98 z110 ⟨rfl, trivial⟩ rfl ?_
   refine bV _ tI rfl rfl rfl rfl ⟨rfl, rfl⟩ (fun A w hW => pA p.h0 p.sems.length o (A 1) w ⟨hW.var rfl rfl, trivial⟩) ?_
   rintro v L ⟨b, rfl, hb, rfl⟩
   refine CaseB.mk (fun g1 => ?_) (fun g1 => ?_)
   · obtain ⟨c1, c2⟩ := hb.1 g1
     have hlt : o.on.toNat < p.sems.length := by omega
     have e : p.pure.sems.getD o.on.toNat 0 = p.sems[o.on.toNat] := by simp [ProgH.pure, List.getD, hlt]
     refine CaseB.mk (fun g2 => ?_) (fun g2 => ?_)
     · have c3 : 1 ≤ o.arg := by simp at g2; omega
       refine bM (ti := aZ tab) aI aA rfl rfl rfl rfl rfl ⟨rfl, rfl⟩ (aN 0 rfl (.ofR (fA p))) o.on.toNat (by omega) z37 (fun ad => ?_)
       refine aG ⟨_, rfl, ?_, rfl⟩ (fun _ => rfl)
       rw [hx, e]
       show _ ↔ (0 ≤ o.on ∧ o.on < (p.sems.length : Int)) ∧ _
       simp [c1, c2, c3]
     · have c3 : ¬ 1 ≤ o.arg := by simp at g2; omega
       exact aG ⟨_, rfl, tno fun e => c3 (hx.1 e).2.1, rfl⟩ (fun _ => rfl)
   · exact aG ⟨_, rfl, tno fun e => z71, rfl⟩ (fun _ => rfl)
 refine CaseB.mk (fun k4 => ?_) (fun k4 => ?_)
 · have hx := gY0 (p := p.pure) (o := o) (by simpa using k4)
   apply CaseB.mk <;> intro g
   · have g1 : 0 ≤ o.on := by simp at g; omega
     apply CaseB.mk <;> intro g
     · have g2 : o.on ≤ 2 := by simp at g; omega
       refine aB _ aB0 rfl rfl rfl rfl ⟨rfl, rfl⟩ (fun A w hW => iC _ w) ?_
       rintro v L ⟨rfl, rfl⟩
       exact aG ⟨_, rfl, by rw [hx]; simp [g1, g2], rfl⟩ (fun _ => rfl)
     · have g2 : ¬ o.on ≤ 2 := by simp at g; omega
       exact aG ⟨_, rfl, tno fun e => g2 (hx.1 e).2.1, rfl⟩ (fun _ => rfl)
   · have g1 : ¬ 0 ≤ o.on := by simp at g; omega
     exact aG ⟨_, rfl, tno fun e => g1 (hx.1 e).1, rfl⟩ (fun _ => rfl)
 refine CaseB.mk (fun k5 => ?_) (fun k5 => ?_)
 · skip
   have hx := opOk5 (p := p.pure) (o := o) (by simpa using k5)
   refine aB _ tI rfl rfl rfl rfl ⟨rfl, rfl⟩ (fun A w hW => pA p.h1 p.groups.length o (A 1) w ⟨hW.var rfl rfl, trivial⟩) ?_
   rintro v L ⟨b, rfl, hb, rfl⟩
   refine CaseB.mk (fun g1 => ?_) (fun g1 => ?_)
   rotate_left
   · exact aG ⟨_, rfl, tno fun e => z71, rfl⟩ (fun _ => rfl)
   have c := hb.1 g1
   have c' : 0 ≤ o.on ∧ o.on < (p.pure.groups.length : Int) := c
   refine CaseB.mk (fun g2 => ?_) (fun g2 => ?_)
   · have c3 : -9 ≤ o.arg := by simp at g2; omega
     exact aG ⟨_, rfl, by rw [hx]; simp only [c', c3, true_and, and_self]; simp, rfl⟩ (fun _ => rfl)
   · have c3 : ¬ -9 ≤ o.arg := by simp at g2; omega
     exact aG ⟨_, rfl, tno fun e => c3 (hx.1 e).2.1, rfl⟩ (fun _ => rfl)
 refine CaseB.mk (fun k6 => ?_) (fun k6 => ?_)
 · skip
   have hx := lE0 (p := p.pure) (o := o) (by simpa using k6)
   refine aB _ tI rfl rfl rfl rfl ⟨rfl, rfl⟩ (fun A w hW => pA p.h1 p.groups.length o (A 1) w ⟨hW.var rfl rfl, trivial⟩) ?_
   rintro v L ⟨b, rfl, hb, rfl⟩
   refine CaseB.mk (fun g1 => ?_) (fun g1 => ?_)
   rotate_left
   · exact aG ⟨_, rfl, tno fun e => z71, rfl⟩ (fun _ => rfl)
   have c := hb.1 g1
   have c' : 0 ≤ o.on ∧ o.on < (p.pure.groups.length : Int) := c
   exact aG ⟨_, rfl, by rw [hx]; simp only [c', true_and, and_self]; simp, rfl⟩ (fun _ => rfl)
 refine CaseB.mk (fun k7 => ?_) (fun k7 => ?_)
 · skip
   have hx := lF0 (p := p.pure) (o := o) (by simpa using k7)
   refine aB _ tI rfl rfl rfl rfl ⟨rfl, rfl⟩ (fun A w hW => pA p.h2 p.barriers.length o (A 1) w ⟨hW.var rfl rfl, trivial⟩) ?_
   rintro v L ⟨b, rfl, hb, rfl⟩
   refine CaseB.mk (fun g1 => ?_) (fun g1 => ?_)
   rotate_left
   · exact aG ⟨_, rfl, tno fun e => z71, rfl⟩ (fun _ => rfl)
   have c := hb.1 g1
   have c' : 0 ≤ o.on ∧ o.on < (p.pure.barriers.length : Int) := c
   exact aG ⟨_, rfl, by rw [hx]; simp only [c', true_and, and_self]; simp, rfl⟩ (fun _ => rfl)
 refine CaseB.mk (fun k8 => ?_) (fun k8 => ?_)
 · skip
   have hx := lG0 (p := p.pure) (o := o) (by simpa using k8)
   refine aB _ tI rfl rfl rfl rfl ⟨rfl, rfl⟩ (fun A w hW => pA p.h3 p.rooms.length o (A 1) w ⟨hW.var rfl rfl, trivial⟩) ?_
   rintro v L ⟨b, rfl, hb, rfl⟩
   refine CaseB.mk (fun g1 => ?_) (fun g1 => ?_)
   rotate_left
   · exact aG ⟨_, rfl, tno fun e => z71, rfl⟩ (fun _ => rfl)
   have c := hb.1 g1
   have c' : 0 ≤ o.on ∧ o.on < (p.pure.rooms.length : Int) := c
   refine aB _ aB0 rfl rfl rfl rfl ⟨rfl, rfl⟩ (fun A w hW => iC _ w) ?_
   rintro v L ⟨rfl, rfl⟩
   exact aG ⟨_, rfl, by rw [hx]; simp only [c', true_and, and_self], rfl⟩ (fun _ => rfl)
 refine CaseB.mk (fun k9 => ?_) (fun k9 => ?_)
 · refine CaseB.mk (fun _ => ?_) (fun g => by rw [k9] at g; cases g)
   have hx := gZ0 (p := p.pure) (o := o) (.inl (by simpa using k9))
   refine aB _ tI rfl rfl rfl rfl ⟨rfl, rfl⟩ (fun A w hW => pA p.h3 p.rooms.length o (A 1) w ⟨hW.var rfl rfl, trivial⟩) ?_
   rintro v L ⟨b, rfl, hb, rfl⟩
   refine CaseB.mk (fun g1 => ?_) (fun g1 => ?_)
   rotate_left
   · exact aG ⟨_, rfl, tno fun e => z71, rfl⟩ (fun _ => rfl)
   have c := hb.1 g1
   have c' : 0 ≤ o.on ∧ o.on < (p.pure.rooms.length : Int) := c
   exact aG ⟨_, rfl, by rw [hx]; simp only [c', true_and, and_self]; simp, rfl⟩ (fun _ => rfl)
 refine CaseB.mk (fun k10 => ?_) (fun k10 => ?_)
 · skip
   have hx := gZ0 (p := p.pure) (o := o) (.inr (by simpa using k10))
   refine aB _ tI rfl rfl rfl rfl ⟨rfl, rfl⟩ (fun A w hW => pA p.h3 p.rooms.length o (A 1) w ⟨hW.var rfl rfl, trivial⟩) ?_
   rintro v L ⟨b, rfl, hb, rfl⟩
   refine CaseB.mk (fun g1 => ?_) (fun g1 => ?_)
   rotate_left
   · exact aG ⟨_, rfl, tno fun e => z71, rfl⟩ (fun _ => rfl)
   have c := hb.1 g1
   have c' : 0 ≤ o.on ∧ o.on < (p.pure.rooms.length : Int) := c
   exact aG ⟨_, rfl, by rw [hx]; simp only [c', true_and, and_self]; simp, rfl⟩ (fun _ => rfl)
 have hno : ¬ OpOk p.pure o := opOk0 (by simp at k1 k2 k3 k4 k5 k6 k7 k8 k9 k10; omega)
 exact aG ⟨_, rfl, tno hno, rfl⟩ (fun _ => rfl)
theorem aJ0 (p : ProgH) (w : World) (h : At w [fR (bD p)]) (hs : p.sems.length ≤ 1048576 ∧ p.groups.length ≤ 1048576 ∧ p.barriers.length ≤ 1048576 ∧ p.rooms.length ≤ 1048576) :
   Calls Tryz.prog 41 #[eJ p] w (gC w (ProgOk p.pure)) := by
 refine bU Tryz.func41 rfl aA w _ rfl _ rfl _ h ⟨rfl, rfl, trivial⟩ _ (by decide) ?_
 refine aB _ jI0 rfl rfl rfl rfl ⟨rfl, rfl⟩ (fun A w hW => rR p.h0 p.sems 1 9 w ⟨hW.get 0 rfl (.ofR (fA p)), trivial⟩ (by omega)) ?_
 rintro v L ⟨b0, rfl, hb0, rfl⟩
 apply CaseB.mk <;> intro g
 · exact aG ⟨_, rfl, tno fun e => (by have := hb0.2 e.sems; rw [this] at g; cases g), rfl⟩ (fun _ => rfl)
 have w0 := hb0.1 z85
 refine aB _ jI0 rfl rfl rfl rfl ⟨rfl, rfl⟩ (fun A w hW => rR p.h1 p.groups 0 9 w ⟨hW.get 0 rfl (.ofR (kL p)), trivial⟩ (by omega)) ?_
 rintro v L ⟨b1, rfl, hb1, rfl⟩
 apply CaseB.mk <;> intro g
 · exact aG ⟨_, rfl, tno fun e => (by have := hb1.2 e.groups; rw [this] at g; cases g), rfl⟩ (fun _ => rfl)
 have w1 := hb1.1 z85
 refine aB _ jI0 rfl rfl rfl rfl ⟨rfl, rfl⟩ (fun A w hW => rR p.h2 p.barriers 1 6 w ⟨hW.get 0 rfl (.ofR (fG p)), trivial⟩ (by omega)) ?_
 rintro v L ⟨b2, rfl, hb2, rfl⟩
 apply CaseB.mk <;> intro g
 · exact aG ⟨_, rfl, tno fun e => (by have := hb2.2 e.barriers; rw [this] at g; cases g), rfl⟩ (fun _ => rfl)
 have w2 := hb2.1 z85
 refine aB _ jI0 rfl rfl rfl rfl ⟨rfl, rfl⟩ (fun A w hW => rR p.h3 p.rooms 0 4 w ⟨hW.get 0 rfl (.ofR (iF p)), trivial⟩ (by omega)) ?_
 rintro v L ⟨b3, rfl, hb3, rfl⟩
 apply CaseB.mk <;> intro g
 · exact aG ⟨_, rfl, tno fun e => (by have := hb3.2 e.rooms; rw [this] at g; cases g), rfl⟩ (fun _ => rfl)
 have w3 := hb3.1 z85
 have hlen : p.pure.threads.length = p.threads.length := by simp [ProgH.pure]
 apply CaseB.mk <;> intro g
 · have q : ¬ 1 ≤ p.threads.length := by have g' := of_decide_eq_true g; omega
   exact aG ⟨_, rfl, tno fun e => q (hlen ▸ e.n1), rfl⟩ (fun _ => rfl)
 have n1 : 1 ≤ p.threads.length := by have g' := of_decide_eq_false g; omega
 apply CaseB.mk <;> intro g
 · have q : ¬ p.threads.length ≤ 4 := by simp at g; omega
   exact aG ⟨_, rfl, tno fun e => q (hlen ▸ e.n4), rfl⟩ (fun _ => rfl)
 have n4 : p.threads.length ≤ 4 := by simp at g; omega
 have hmem : ∀ (k : Nat) (hk : k < p.threads.length), (p.threads[k]).m ∈ p.pure.threads := fun k hk => List.mem_map_of_mem (List.getElem_mem hk)
 refine LoopW.mk ⟨{ k : Nat // k ≤ p.threads.length ∧ ∀ t ∈ p.pure.threads.take k, t.length ≤ 8 ∧ ∀ o ∈ t, OpOk p.pure o },
   fun k => .mk [(1, .p 0 0), (42, .v (p.h4.val p.threads.length)), (43, .v (.int .i64 (p.threads.length : Int))), (44, .v (.int .i64 (k.1 : Int)))] 1 0 [(0, 38, 5)] [((0, 0), .v (p.h0.val p.sems.length)), ((0, 1), .v (p.h1.val p.groups.length)), ((0, 2), .v (p.h2.val p.barriers.length)), ((0, 3), .v (p.h3.val p.rooms.length)), ((0, 4), .v (p.h4.val p.threads.length))] [fR (bD p)],
   fun k => p.threads.length - k.1, ⟨0, Nat.zero_le _, by simp⟩, ?_, ?_⟩
 · exact aC [0] zw2 zw0 zw2 zw5 zw4 rfl rfl
 rintro ⟨k, hk, hinv⟩
 apply CaseB.mk <;> intro g
 · have hlt : k < p.threads.length := by simpa using g
   have hget : p.pure.threads[k]'(by rw [hlen]; exact hlt) = (p.threads[k]).m := by simp [ProgH.pure]
   refine aF eR aA rfl rfl rfl rfl rfl ⟨rfl, rfl⟩ (aN 0 rfl (.trans (.R_R (bE p)) (.ofR bK))) k rfl z37 (fun ad => ?_)
   apply CaseB.mk <;> intro g
   · have q : ¬ (p.threads[k]).m.length ≤ 8 := by simp at g; omega
     exact aG ⟨_, rfl, tno fun e => q (e.ops _ (hmem k hlt)).1, rfl⟩ (fun _ => rfl)
   have n8 : (p.threads[k]).m.length ≤ 8 := by simp at g; omega
   refine LoopW.mk ⟨{ j : Nat // j ≤ (p.threads[k]).m.length ∧ ∀ o ∈ (p.threads[k]).m.take j, OpOk p.pure o },
     fun j => .mk [(1, .p 0 0), (42, .v (p.h4.val p.threads.length)), (43, .v (.int .i64 (p.threads.length : Int))), (44, .v (.int .i64 (k : Int))), (51, .v ((p.threads[k]).q.val (p.threads[k]).m.length)), (52, .v (.int .i64 ((p.threads[k]).m.length : Int))), (53, .v (.int .i64 (j.1 : Int)))] 1 0 [(0, 38, 5)] [((0, 0), .v (p.h0.val p.sems.length)), ((0, 1), .v (p.h1.val p.groups.length)), ((0, 2), .v (p.h2.val p.barriers.length)), ((0, 3), .v (p.h3.val p.rooms.length)), ((0, 4), .v (p.h4.val p.threads.length))] [fR (bD p)],
     fun j => (p.threads[k]).m.length - j.1, ⟨0, Nat.zero_le _, by simp⟩, ?_, ?_⟩
   · exact aC [0] zw2 zw0 zw2 zw5 zw4 rfl rfl
   rintro ⟨j, hj, hinv2⟩
   apply CaseB.mk <;> intro g
   · have hlj : j < (p.threads[k]).m.length := by simpa using g
     refine aF oX aA rfl rfl rfl rfl rfl ⟨rfl, rfl⟩ (aN 0 rfl (.trans (.R_R (bE p)) (.ofR (gD _ _ k hlt)))) j rfl z37 (fun ad2 => ?_)
     refine aB _ cl84 rfl rfl rfl rfl ⟨rfl, rfl⟩ (fun A w hW => eP0 p _ w ⟨hW.get 0 rfl (.refl _), trivial⟩) ?_
     rintro v L ⟨b, rfl, hb, rfl⟩
     apply CaseB.mk <;> intro g
     · exact aG ⟨_, rfl, tno fun e => z46, rfl⟩ (fun _ => rfl)
     have hw := bA j _ hlj (by omega)
     refine ⟨⟨j + 1, by omega, fun o ho => ?_⟩, ?_, by simp; omega⟩
     · rw [List.take_succ_eq_append_getElem hlj] at ho
       rcases List.mem_append.1 ho with ho | ho
       · exact hinv2 o ho
       · simp at ho; subst ho; exact hb.1 z85
     · exact aC [0] zw1 zw0 zw1 zw5 zw3 rfl rfl
   have hge2 : (p.threads[k]).m.length ≤ j := by simpa using g
   have hw := bA k _ hlt (by omega)
   refine ⟨⟨k + 1, by omega, fun t ht => ?_⟩, ?_, by simp; omega⟩
   · rw [List.take_succ_eq_append_getElem (by rw [hlen]; exact hlt)] at ht
     rcases List.mem_append.1 ht with ht | ht
     · exact hinv t ht
     · simp only [List.mem_singleton] at ht
       rw [hget] at ht
       subst ht
       exact ⟨n8, by rw [List.take_of_length_le hge2] at hinv2; exact hinv2⟩
   · exact aC [0] zw1 zw0 zw1 zw5 zw3 rfl rfl
 have hge : p.threads.length ≤ k := by simpa using g
 refine aG ⟨_, rfl, vR ⟨w0, w1, w2, w3, by rw [hlen]; exact n1, by rw [hlen]; exact n4, fun t ht => ?_⟩, rfl⟩ (fun _ => rfl)
 rw [List.take_of_length_le (by rw [hlen]; exact hge)] at hinv
 exact hinv t ht
def dR : OnceH := ⟨⟨0, 0, 0, []⟩, ⟨none, 0⟩⟩
def rest (ops : List Op) : Int := if ops.length = 0 then 3 else 0
def start (p : Prog) : State := ⟨p.threads.map fun _ => 0, p.threads.map rest, p.sems.map fun n => ⟨n, n, []⟩, [⟨0, 0, 0, []⟩, ⟨0, 0, 0, []⟩, ⟨0, 0, 0, []⟩], p.groups.map fun n => ⟨n, []⟩, p.barriers.map fun n => ⟨n, 0, []⟩, p.rooms.map fun n => ⟨n, [], [], [], false⟩, [], 0⟩
def State.zero : State := ⟨[], [], [], [], [], [], [], [], 0⟩
def StateH.zero : StateH := ⟨[], [], [], [], [], [], [], [], 0, ⟨none, 0⟩, ⟨none, 0⟩, ⟨none, 0⟩, ⟨none, 0⟩, ⟨none, 0⟩, ⟨none, 0⟩, ⟨none, 0⟩, ⟨none, 0⟩⟩
theorem rS : ∀ g ∈ aJ StateH.zero, eF g := by
 intro g hg
 simp [aJ, StateH.zero, oW, mK, kK, iD, nN, jN] at hg
 rcases hg with rfl | rfl | rfl | rfl | rfl | rfl | rfl | rfl <;> exact ⟨rfl, rfl, rfl, rfl⟩
def Started (p : Prog) (v : Value) (L : List Fct) : Prop := ∃ (y : StateH) (b : Bool), v = .tuple #[aM y, .bool b] ∧ (b = true ↔ ProgOk p) ∧ (b = true → y.pure = start p) ∧ (b = false → y.pure = State.zero) ∧ L = [fO (aJ y)]
theorem lH0 {α : Type} {inner : α → List Fct} {xs : List α} (h : ∀ x ∈ xs, ∀ g ∈ inner x, eF g) : ∀ g ∈ xs.flatMap inner, eF g := fun g hg => by
 obtain ⟨x, hx, hg⟩ := List.mem_flatMap.1 hg
 exact h x hx g hg
def Sem.small20 (m : Sem) : Prop := m.queue.length ≤ 1048576
def Once.small20 (m : Once) : Prop := m.waits.length ≤ 1048576
def Group.small20 (m : Group) : Prop := m.waits.length ≤ 1048576
def Barrier.small20 (m : Barrier) : Prop := m.waits.length ≤ 1048576
def Chan.small20 (m : Chan) : Prop := m.items.length ≤ 1048576 ∧ m.senders.length ≤ 1048576 ∧ m.getters.length ≤ 1048576
def State.small20 (s : State) : Prop := s.places.length ≤ 1048576 ∧ s.status.length ≤ 1048576 ∧ bX0 Sem.small20 s.sems ∧ bX0 Once.small20 s.onces ∧ bX0 Group.small20 s.groups ∧ bX0 Barrier.small20 s.barriers ∧ bX0 Chan.small20 s.chans ∧ s.said.length ≤ 1048576
def OpS.small20 (m : List Op) : Prop := m.length ≤ 1048576
def Prog.small20 (s : Prog) : Prop := s.sems.length ≤ 1048576 ∧ s.groups.length ≤ 1048576 ∧ s.barriers.length ≤ 1048576 ∧ s.rooms.length ≤ 1048576 ∧ bX0 OpS.small20 s.threads
theorem cB0 (x y : Waiting) (w : World) : (binOp .neq 110 (.agg (aG0 x).toArray) (.agg (aG0 y).toArray)).run Tryz.prog w = .ok (.bool (decide (x ≠ y))) w := by
 have h := gS0 (P := Tryz.prog) (t := 110) (it := 3) (xs := [x.kind, x.on, x.arg]) (ys := [y.kind, y.on, y.arg]) z88 z88 z88 rfl z88 w
 have e : ([x.kind, x.on, x.arg] ≠ [y.kind, y.on, y.arg]) ↔ x ≠ y := by cases x; cases y; simp
 rw [show decide (x ≠ y) = decide ([x.kind, x.on, x.arg] ≠ [y.kind, y.on, y.arg]) from by simp only [e]]
 exact h
def aK {β : Type} (es : List (Int × β)) (t : Int) : List β := (es.filter fun e => e.1 == t).map (·.2)
theorem xK {β : Type} (m : List (Int × β)) (k : Int) (v : β) (t : Int) : bS (eZ m k v) t = if k = t then some v else bS m t := by
 induction m with
 | nil => simp only [eZ, bS]
 | cons p r ih =>
   obtain ⟨q, u⟩ := p
   simp only [eZ]
   by_cases e : q = k
   · subst e
     simp only [if_true, bS]
     by_cases e2 : q = t <;> simp [e2]
   · simp only [e, if_false, bS, ih]
     by_cases e2 : q = t
     · subst e2
       have : ¬ k = q := fun h => e h.symm
       simp [this]
     · simp [e2]
theorem sV {β : Type} (es : List (Int × β)) (t : Int) : bS (dI es) t = if aK es t = [] then none else some (aK es t) := by
 have : ∀ (es : List (Int × β)) (m : List (Int × List β)) (f : List β), (bS m t = if f = [] then none else some f) → bS (es.foldl nD m) t = if f ++ aK es t = [] then none else some (f ++ aK es t) := fun es => by
   induction es with
   | nil => intro m f h; simpa [aK] using h
   | cons e r ih =>
     intro m f h
     obtain ⟨k, x⟩ := e
     simp only [List.foldl_cons]
     by_cases hk : k = t
     · subst hk
       have h1 : bS (nD m (k, x)) k = some (f ++ [x]) := by
         rw [nD, xK, if_pos rfl, h]
         by_cases hf : f = []
         · simp [hf]
         · simp [hf]
       have := ih (nD m (k, x)) (f ++ [x]) (by rw [h1]; simp)
       rw [this]
       simp [aK]
     · have h1 : bS (nD m (k, x)) t = bS m t := by rw [nD, xK, if_neg hk]
       have := ih (nD m (k, x)) f (by rw [h1]; exact h)
       rw [this]
       have e2 : aK ((k, x) :: r) t = aK r t := by simp [aK, hk]
       rw [e2]
 have := this es [] [] (by simp [bS])
 simpa [dI] using this
theorem cC0 {β : Type} (es : List (Int × β)) (t : Int) : (bS (dI es) t).getD [] = aK es t := by
 rw [sV]
 by_cases h : aK es t = [] <;> simp [h]
theorem nE {β : Type} {es : List (Int × β)} {t : Int} : aK es t = [] ↔ ∀ e ∈ es, e.1 ≠ t := by
 simp [aK, List.filter_eq_nil_iff]
def jR {β : Type} (m : List (Int × β)) : Prop := (m.map (·.1)).Nodup
theorem eQ0 {β : Type} (m : List (Int × β)) (k : Int) (v : β) : (eZ m k v).map (·.1) = if k ∈ m.map (·.1) then m.map (·.1) else m.map (·.1) ++ [k] := by
 induction m with
 | nil => simp [eZ]
 | cons p r ih =>
   obtain ⟨q, u⟩ := p
   simp only [eZ]
   by_cases e : q = k
   · simp [e]
   · have e' : ¬ k = q := fun h => e h.symm
     simp only [e, if_false, List.map_cons, ih, List.mem_cons, e', false_or]
     split <;> simp
theorem tQ {β : Type} (es : List (Int × β)) : jR (dI es) := by
 have : ∀ (es : List (Int × β)) (m : List (Int × List β)), jR m → jR (es.foldl nD m) := fun es => by
   induction es with
   | nil => intro m h; exact h
   | cons e r ih =>
     intro m h
     refine ih _ ?_
     simp only [jR, nD, eQ0] at h ⊢
     split
     · exact h
     · rename_i hn
       rw [List.nodup_append]
       exact ⟨h, by simp, fun a ha b hb => by simp at hb; subst hb; rintro rfl; exact hn ha⟩
 exact this es [] (by simp [jR])
theorem aK0 {β : Type} {ps : List (Int × LH β)} : jR (pm ps) ↔ jR ps := by
 simp [jR, pm, Function.comp_def]
theorem eR0 {β : Type} {m : List (Int × β)} {t : Int} : bS m t = none ↔ t ∉ m.map (·.1) := by
 induction m with
 | nil => simp [bS]
 | cons p r ih =>
   obtain ⟨q, u⟩ := p
   simp only [bS]
   by_cases e : q = t
   · simp [e]
   · have e' : ¬ t = q := fun h => e h.symm
     simp [e, e', ih]
theorem uM {β : Type} {m : List (Int × β)} {t : Int} {u : β} (h : bS m t = some u) : (t, u) ∈ m := by
 induction m with
 | nil => simp [bS] at h
 | cons p r ih =>
   obtain ⟨q, v⟩ := p
   simp only [bS] at h
   by_cases e : q = t
   · simp only [e, if_true, Option.some.injEq] at h
     subst h; subst e; simp
   · simp only [e, if_false] at h
     exact List.mem_cons_of_mem _ (ih h)
theorem aL0 {β : Type} (m : List (Int × β)) (t : Int) : (eU m t).Sublist m := by
 induction m with
 | nil => exact .refl _
 | cons p r ih =>
   obtain ⟨q, v⟩ := p
   simp only [eU]
   split
   · exact List.sublist_cons_self _ _
   · exact ih.cons_cons _
theorem eS0 {β : Type} {m : List (Int × β)} (h : jR m) (t : Int) : jR (eU m t) := h.sublist ((aL0 m t).map _)
theorem hB0 {β : Type} {m : List (Int × β)} (h : jR m) (t x : Int) : bS (eU m t) x = if x = t then none else bS m x := by
 induction m with
 | nil => simp [eU, bS]
 | cons p r ih =>
   obtain ⟨q, v⟩ := p
   have hq : q ∉ r.map (·.1) ∧ jR r := by simpa [jR] using h
   simp only [eU]
   by_cases e : q = t
   · subst e
     simp only [if_true]
     by_cases ex : x = q
     · subst ex; simp only [if_true]; exact eR0.2 hq.1
     · have : ¬ q = x := fun h => ex h.symm
       simp [ex, bS, this]
   · simp only [e, if_false, bS, ih hq.2]
     by_cases ex : q = x
     · subst ex; simp [e]
     · simp [ex]
theorem aM0 {β : Type} {m : List (Int × β)} (h : ∀ x, bS m x = none) : m = [] := by
 cases m with
 | nil => rfl
 | cons p r =>
   have := h p.1
   simp [bS] at this
theorem uN {β : Type} {ty : TypeId} {enc : β → List Value} {sz : Nat} {ps : List (Int × LH β)} {t : Int} {u : LH β} (h : (t, u) ∈ ps) : RdIn (lX ty enc sz ps) (slo u.q enc sz u.xs) :=
 RdIn.own (o := false) (e := ty) (List.mem_flatMap.2 ⟨_, h, by simp⟩)
structure Left {β : Type} (ps qs : List (Int × LH β)) (k : Nat) : Prop where
 sub : qs.Sublist ps
 key : jR qs
 get : ∀ x, bS qs x = if 0 ≤ x ∧ x < k then none else bS ps x
theorem Left.start {β : Type} {ps : List (Int × LH β)} (h : jR ps) : Left ps ps 0 := ⟨.refl _, h, fun x => by rw [if_neg (by omega)]⟩
theorem Left.next {β : Type} {ps qs : List (Int × LH β)} {k : Nat} (h : Left ps qs k) : Left ps (eU qs (k : Int)) (k + 1) := by
 refine ⟨(aL0 _ _).trans h.sub, eS0 h.key _, fun x => ?_⟩
 rw [hB0 h.key, h.get]
 by_cases e : x = k
 · rw [if_pos e, if_pos (by omega)]
 · rw [if_neg e]
   by_cases e2 : 0 ≤ x ∧ x < k
   · rw [if_pos e2, if_pos (by omega)]
   · rw [if_neg e2, if_neg (by omega)]
theorem Left.at {β : Type} {ps qs : List (Int × LH β)} {k : Nat} (h : Left ps qs k) {es : List (Int × β)} (he : pm ps = dI es) : ((bS qs (k : Int)).getD LH.nil).xs = aK es k := by
 have h1 := h.get k
 rw [if_neg (by omega)] at h1
 have h2 := cC0 es (k : Int)
 rw [← he, rO] at h2
 rw [h1, ← h2]
 cases bS ps (k : Int) <;> rfl
theorem Left.done {β : Type} {ps qs : List (Int × LH β)} {k : Nat} (h : Left ps qs k) {es : List (Int × β)} (he : pm ps = dI es) : qs = [] ↔ ∀ e ∈ es, 0 ≤ e.1 ∧ e.1 < k := by
 constructor
 · rintro rfl e hm
   refine Classical.byContradiction fun hn => ?_
   have h1 := h.get e.1
   rw [if_neg hn] at h1
   have h2 := sV es e.1
   have h3 : aK es e.1 ≠ [] := fun h0 => nE.1 h0 e hm rfl
   rw [if_neg h3, ← he, rO, ← h1] at h2
   simp [bS] at h2
 · intro hall
   refine aM0 fun x => ?_
   rw [h.get]
   split
   · rfl
   · rename_i hn
     have h3 : aK es x = [] := nE.2 fun e hm hx => hn (hx ▸ hall e hm)
     have h2 := sV es x
     rw [if_pos h3, ← he, rO] at h2
     cases hq : bS ps x with
     | none => rfl
     | some u => rw [hq] at h2; simp at h2
def iV (o : Op) : Waiting := ⟨o.kind, o.on, if o.kind = 2 ∨ o.kind = 8 then o.arg else 0⟩
def jS (ops : List Op) (at_ st : Int) (w : List Waiting) (o : List Int) : Prop :=
 0 ≤ at_ ∧ at_ ≤ ops.length ∧ ((at_ = ops.length ∧ st = 3 ∧ w = [] ∧ o = []) ∨
   ∃ op, ops[at_.toNat]? = some op ∧ ((st = 0 ∧ w = [] ∧ o = []) ∨ (st = 1 ∧ o = [] ∧ w = [iV op]) ∨ (st = 2 ∧ w = [] ∧ op.kind = 4 ∧ o = [op.on])))
structure Fits (p : Prog) (s : State) : Prop where
 prog : ProgOk p
 np : s.places.length = p.threads.length
 ns : s.status.length = p.threads.length
 lsems : s.sems.length = p.sems.length
 lgroups : s.groups.length = p.groups.length
 lbarriers : s.barriers.length = p.barriers.length
 lchans : s.chans.length = p.rooms.length
 lonces : s.onces.length = 3
 lsaid : s.said.length ≤ 64
 f0 : 0 ≤ s.fault
 f4 : s.fault ≤ 4
 sems : ∀ (i : Nat) x, s.sems[i]? = some x → SemOk x ∧ p.sems[i]? = some x.limit
 groups : ∀ x ∈ s.groups, fE x
 barriers : ∀ (i : Nat) x, s.barriers[i]? = some x → dE x ∧ p.barriers[i]? = some x.parties
 chans : ∀ (i : Nat) x, s.chans[i]? = some x → x.valid = true ∧ p.rooms[i]? = some x.room
 onces : ∀ x ∈ s.onces, cS x
 said : ∀ v ∈ s.said, aR v = true
 threads : ∀ (t : Nat) ops at_ st, p.threads[t]? = some ops → s.places[t]? = some at_ → s.status[t]? = some st → jS ops at_ st (aK (bB s) t) (aK (bO s) t)
 ev : ∀ e ∈ bB s, 0 ≤ e.1 ∧ e.1 < p.threads.length
 ow : ∀ e ∈ bO s, 0 ≤ e.1 ∧ e.1 < p.threads.length
theorem nP {α β : Type} {f : Nat → α → List β} {C : Nat} : ∀ {i : Nat} {xs : List α}, (∀ i x, x ∈ xs → (f i x).length ≤ C) → (evL f i xs).length ≤ xs.length * C
 | i, [], _ => by simp [evL]
 | i, x :: r, h => by
   have h1 := h i x (by simp)
   have h2 := nP (i := i + 1) (xs := r) fun i y hy => h i y (by simp [hy])
   have e : (r.length + 1) * C = r.length * C + C := Nat.succ_mul _ _
   simp only [evL, List.length_append, List.length_cons, e]
   omega
theorem eD {m : Once} (h : cS m) : m.waits.length ≤ 6 := by
 rcases h with h | h | h
 · rw [h.2.2.2]; simp
 · exact cJ h.2.2.2.1
 · rw [h.2.2.2]; simp
theorem fZ {m : Barrier} (h : dE m) : m.waits.length ≤ 6 := cJ h.2.2.2.2.2
theorem gF {m : Group} (h : fE m) : m.waits.length ≤ 6 := cJ h.2.1
theorem lH {m : Chan} (h : m.valid = true) : m.senders.length + m.getters.length ≤ 6 := by
 have hv : m.Valid := by simpa [Chan.valid] using h
 have := cJ hv.di
 simpa [Chan.threads] using this
end Go.Proofs.YtchkcjeeknfchaaGreatDoor
namespace Go.Sx
set_option maxRecDepth 100000
set_option maxHeartbeats 100000000
open Go Go.RowKit
def bs (l : List UInt8) : ByteArray := ⟨l.toArray⟩
theorem yR (l : List UInt8) : (bs l).toList = l := ByteArray.toList_mk l
theorem rT (l : List UInt8) : (bs l).size = l.length := by simp [bs, ByteArray.size]
theorem mE0 (a b : List UInt8) : bs a ++ bs b = bs (a ++ b) := ByteArray.mk_append_mk a b
theorem yT (s : List UInt8) (l h : Nat) : (bs s).extract l h = bs ((s.drop l).take (h - l)) := ByteArray.extract_mk s l h
theorem mF0 (s : List UInt8) (k : Nat) (h : k < s.length) : (bs s)[k]? = some s[k] := by
 have h2 : k < (bs s).size := by rw [rT]; exact h
 rw [ByteArray.getElem?_lt' _ _ h2]
 congr 1
def pZ (x : List UInt8) : List Value := [.string (bs x)]
theorem dW : Enc pZ 1 := ⟨fun _ => rfl, fun _ u hu => by simp [pZ] at hu; subst hu; rfl⟩
theorem bP {P : Program} {t : TypeId} {a b : List UInt8} (h : a.length + b.length ≤ 9223372036854775807) (w : World) : (binOp .add t (.string (bs a)) (.string (bs b))).run P w = .ok (.string (bs (a ++ b))) w := by
 rw [binOp_string_add, run_string_add_sum w _ _ (by rw [rT, rT]; exact h), mE0]
theorem uO {P : Program} {t : TypeId} {a b : List UInt8} (w : World) : (binOp .eql t (.string (bs a)) (.string (bs b))).run P w = .ok (.bool (a == b)) w := by
 rw [dR0, yR, yR]
theorem pQ {P : Program} {t : TypeId} {a b : List UInt8} (w : World) : (binOp .neq t (.string (bs a)) (.string (bs b))).run P w = .ok (.bool (a != b)) w := by
 rw [binOp_string_neq, bne]
 show (Op.stringOp .neq _ _).run P w = _
 simp [Op.stringOp, yR]
section
variable {E : Env} {ti : Nat → TI} {A : Nat → Nat} {T : List (Nat × SV)} {n c : Nat} {B : List (Nat × TypeId × Nat)} {M : List ((Nat × Nat) × SV)} {F Fs : List Fct} {o : Oper} {next : St → Prop} {a : Act} {w : World}
theorem pR {P : Program} {t : TypeId} {agg : Bool} {size bytes : Nat} {zero : List Value} {fs : List (Nat × Nat × Bool)} {el : Option TypeId} {ik : Option IntKind} (h : aT P t (.mk agg size zero fs el ik 2 bytes)) : P.underlying t = some .string := by
 obtain ⟨ii, dd, z, e1, e2, e3, e4, e5, e6, e7, e8, e9, e10, e11⟩ := aP h
 rw [e2, eD0 e10]
theorem hC0 (hti : ∀ t, aT E.P t (ti t)) (hT : TD E A T n c a w) {k : Call} {t : TypeId} {x : Operand} {s : List UInt8} {agg : Bool} {size bytes : Nat} {zero : List Value} {fs : List (Nat × Nat × Bool)} {el : Option TypeId} {ik : Option IntKind}
   (hop : o.op = .call k) (hk : k.callee = .builtin .len) (ha : k.args.toList = [x]) (hty : k.argTypes.toList = [t])
   (hx : aY T x = some (.v (.string (bs s)))) (ht : ti t = .mk agg size zero fs el ik 2 bytes) : (execOp a.eval o).run E.P w = .ok (.value (.int .i64 (s.length : Int))) w := by
 have htt := hti t
 rw [ht] at htt
 have hs := pR htt
 have hx' := (aE hT hx).1
 simp only [SV.den] at hx'
 have hargs : k.args = #[x] := by apply Array.ext'; simpa using ha
 have htys : k.argTypes = #[t] := by apply Array.ext'; simpa using hty
 simp [execOp, hop, resolve, hk, hargs, htys, invoke, builtin, hx', run_len_string _ _ _ _ hs, goInt, rT]
theorem eA {k : Call} {t : TypeId} {x : Operand} {d : Nat} {s : List UInt8} {agg : Bool} {size bytes : Nat} {zero : List Value} {fs : List (Nat × Nat × Bool)} {el : Option TypeId} {ik : Option IntKind}
   (hti : ∀ t, aT E.P t (ti t)) (hop : o.op = .call k) (hk : k.callee = .builtin .len) (ha : k.args.toList = [x]) (hty : k.argTypes.toList = [t])
   (hx : aY T x = some (.v (.string (bs s)))) (ht : ti t = .mk agg size zero fs el ik 2 bytes) (hd : Dst E o d)
   (hnext : next (.mk ((d, .v (.int .i64 (s.length : Int))) :: T) n c B M F)) : OpW (cQ E o next T n c B M F) := by
 refine ⟨fun A a w hW hT => ?_⟩
 refine aQ (hC0 hti hT hop hk ha hty hx ht) ?_
 rw [hd.1]
 exact ⟨_, ⟨_, hW, hT.put (v := .v (.int .i64 (s.length : Int))) hd.lt trivial⟩, hnext⟩
theorem hD0 (hti : ∀ t, aT E.P t (ti t)) (hT : TD E A T n c a w) {t : TypeId} {x y : Operand} {s : List UInt8} {kd : IntKind} {q : Int} {agg : Bool} {size bytes : Nat} {zero : List Value} {fs : List (Nat × Nat × Bool)} {el : Option TypeId} {ik : Option IntKind}
   (hop : o.op = .index t x y) (hx : aY T x = some (.v (.string (bs s)))) (hy : aY T y = some (.v (.int kd q))) (ht : ti t = .mk agg size zero fs el ik 2 bytes) (j : Nat) (hq : q = (j : Int)) (hj : j < s.length) :
   (execOp a.eval o).run E.P w = .ok (.value (.int .u8 (s[j].toNat : Int))) w := by
 have htt := hti t
 rw [ht] at htt
 have hs := pR htt
 subst hq
 have hx' := (aE hT hx).1
 have hy' := (aE hT hy).1
 simp only [SV.den] at hx' hy'
 simp [execOp, hop, hx', hy', Instr.index, asIntOf, underlying, hs, mF0 s j hj]
theorem gR {t : TypeId} {x y : Operand} {d : Nat} {s : List UInt8} {kd : IntKind} {q : Int} {agg : Bool} {size bytes : Nat} {zero : List Value} {fs : List (Nat × Nat × Bool)} {el : Option TypeId} {ik : Option IntKind}
   (hti : ∀ t, aT E.P t (ti t)) (hop : o.op = .index t x y) (hx : aY T x = some (.v (.string (bs s)))) (hy : aY T y = some (.v (.int kd q))) (ht : ti t = .mk agg size zero fs el ik 2 bytes) (hd : Dst E o d) (j : Nat) (hq : q = (j : Int)) (hj : j < s.length)
   (hnext : next (.mk ((d, .v (.int .u8 (s[j].toNat : Int))) :: T) n c B M F)) : OpW (cQ E o next T n c B M F) := by
 refine ⟨fun A a w hW hT => ?_⟩
 refine aQ (hD0 hti hT hop hx hy ht j hq hj) ?_
 rw [hd.1]
 exact ⟨_, ⟨_, hW, hT.put (v := .v (.int .u8 (s[j].toNat : Int))) hd.lt trivial⟩, hnext⟩
theorem hF0 (hti : ∀ t, aT E.P t (ti t)) (hT : TD E A T n c a w) {t : TypeId} {x : Operand} {lo hi : Option Operand} {s : List UInt8} {ml mh : Int} {agg : Bool} {size bytes : Nat} {zero : List Value} {fs : List (Nat × Nat × Bool)} {el : Option TypeId} {ik : Option IntKind}
   (hop : o.op = .slice t x lo hi none) (hx : aY T x = some (.v (.string (bs s)))) (ht : ti t = .mk agg size zero fs el ik 2 bytes)
   (hlo : pX T 0 lo = some ml) (hhi : pX T (s.length : Int) hi = some mh) {l h : Nat} (el' : ml = (l : Int)) (eh : mh = (h : Int)) (h1 : l ≤ h) (h2 : h ≤ s.length) :
   (execOp a.eval o).run E.P w = .ok (.value (.string (bs ((s.drop l).take (h - l))))) w := by
 have htt := hti t
 rw [ht] at htt
 have hs := pR htt
 subst el'; subst eh
 have hx' := (aE hT hx).1
 simp only [SV.den] at hx'
 have hz := rT s
 have key : ∀ lo' hi' : Option Value, ((lo' = none ∧ l = 0) ∨ ∃ kd, lo' = some (.int kd (l : Int))) → ((hi' = none ∧ h = s.length) ∨ ∃ kd, hi' = some (.int kd (h : Int))) →
     (Instr.slice t (.string (bs s)) lo' hi' none).run E.P w = .ok (.string (bs ((s.drop l).take (h - l)))) w := by
   rintro lo' hi' (⟨rfl, rfl⟩ | ⟨kd, rfl⟩) (⟨rfl, rfl⟩ | ⟨kd2, rfl⟩)
   · rw [run_slice_string_all w t _ hs, hz, yT]
   · rw [run_slice_string_h w t _ hs kd2 _ (by omega) (by omega), yT]; rfl
   · rw [run_slice_string_l w t _ hs kd _ (by omega) (by omega), hz, yT]; rfl
   · rw [run_slice_string w t _ kd kd2 _ _ hs (by omega) (by omega) (by omega), yT]; rfl
 have := key (lo.map a.eval) (hi.map a.eval) (by
   cases lo with
   | none => simp only [pX, Option.some.injEq] at hlo; exact .inl ⟨rfl, by omega⟩
   | some y => obtain ⟨kd, e⟩ := pN hT hlo; exact .inr ⟨kd, by simp [e]⟩) (by
   cases hi with
   | none => simp only [pX, Option.some.injEq] at hhi; exact .inl ⟨rfl, by omega⟩
   | some y => obtain ⟨kd, e⟩ := pN hT hhi; exact .inr ⟨kd, by simp [e]⟩)
 have hn : (Instr.sliceAt t (.string (bs s)) (lo.map a.eval) (hi.map a.eval) none).run E.P w = (Instr.slice t (.string (bs s)) (lo.map a.eval) (hi.map a.eval) none).run E.P w := by simp [Instr.sliceAt, underlying, hs]
 simp only [execOp, hop, hx', Option.map_none, hn, this, Sem.run_bind, Sem.run_pure, Result.andThen_ok]
theorem kT {t : TypeId} {x : Operand} {lo hi : Option Operand} {d : Nat} {s : List UInt8} {ml mh : Int} {agg : Bool} {size bytes : Nat} {zero : List Value} {fs : List (Nat × Nat × Bool)} {el : Option TypeId} {ik : Option IntKind}
   (hti : ∀ t, aT E.P t (ti t)) (hop : o.op = .slice t x lo hi none) (hx : aY T x = some (.v (.string (bs s)))) (ht : ti t = .mk agg size zero fs el ik 2 bytes) (hd : Dst E o d)
   (hlo : pX T 0 lo = some ml) (hhi : pX T (s.length : Int) hi = some mh) (l h : Nat) (el' : ml = (l : Int)) (eh : mh = (h : Int)) (h1 : l ≤ h) (h2 : h ≤ s.length)
   (hnext : next (.mk ((d, .v (.string (bs ((s.drop l).take (h - l))))) :: T) n c B M F)) : OpW (cQ E o next T n c B M F) := by
 refine ⟨fun A a w hW hT => ?_⟩
 refine aQ (hF0 hti hT hop hx ht hlo hhi el' eh h1 h2) ?_
 rw [hd.1]
 exact ⟨_, ⟨_, hW, hT.put (v := .v (.string (bs ((s.drop l).take (h - l))))) hd.lt trivial⟩, hnext⟩
theorem jX0 (hti : ∀ t, aT E.P t (ti t)) (hT : TD E A T n c a w) {src dst e : TypeId} {x : Operand} {i : Sl} {s : List UInt8} {agg : Bool} {size bytes kk : Nat} {zero : List Value} {fs : List (Nat × Nat × Bool)} {ik : Option IntKind} {agg2 : Bool} {size2 bytes2 kk2 : Nat} {zero2 : List Value} {fs2 : List (Nat × Nat × Bool)} {el2 : Option TypeId} {agg3 : Bool} {size3 bytes3 : Nat} {zero3 : List Value} {fs3 : List (Nat × Nat × Bool)} {el3 : Option TypeId} {ik3 : Option IntKind}
   (hop : o.op = .convert src dst x) (hx : aY T x = some (.v (i.val s.length))) (ht : ti src = .mk agg size zero fs (some e) ik kk bytes) (hte : ti e = .mk agg2 size2 zero2 fs2 el2 (some .u8) kk2 bytes2) (htd : ti dst = .mk agg3 size3 zero3 fs3 el3 ik3 2 bytes3)
   (hr : RdS w i 1 (s.map fun b => .int .u8 (b.toNat : Int)) s.length) (hpos : 0 < s.length) : (execOp a.eval o).run E.P w = .ok (.value (.string (bs s))) w := by
 have htt := hti src
 rw [ht] at htt
 obtain ⟨ii, dd, z, e1, e2, e3, e4, e5, e6, e7, e8, e9, e10, e11⟩ := aP htt
 have h1 : E.P.underlying src = some (.slice e) := by rw [e2, fT e8]
 have htt2 := hti e
 rw [hte] at htt2
 obtain ⟨ii2, dd2, z2, k1, k2, k3, k4, k5, k6, k7, k8, k9, k10, k11⟩ := aP htt2
 have h2 : E.P.underlying e = some (.int .u8) := by rw [k2, fY0 k9]
 have htt3 := hti dst
 rw [htd] at htt3
 have h3 := pR htt3
 have hx' := (aE hT hx).1
 simp only [SV.den, Sl.val] at hx'
 obtain ⟨_, _, _, hc⟩ := hr
 obtain ⟨ad, ha, hcell⟩ := hc hpos
 have key := run_convert_bytes_back (P := E.P) w src dst e ad i.c s h1 h2 h3 (fun j hj => hcell j _ (by simp [List.getElem?_eq_getElem hj]))
 rw [ha] at hx'
 simp only [execOp, hop, hx', key, Sem.run_bind, Sem.run_pure, Result.andThen_ok]
 rfl
theorem aN0 {src dst e : TypeId} {x : Operand} {d : Nat} {i : Sl} {s : List UInt8} {agg : Bool} {size bytes kk : Nat} {zero : List Value} {fs : List (Nat × Nat × Bool)} {ik : Option IntKind} {agg2 : Bool} {size2 bytes2 kk2 : Nat} {zero2 : List Value} {fs2 : List (Nat × Nat × Bool)} {el2 : Option TypeId} {agg3 : Bool} {size3 bytes3 : Nat} {zero3 : List Value} {fs3 : List (Nat × Nat × Bool)} {el3 : Option TypeId} {ik3 : Option IntKind}
   (hti : ∀ t, aT E.P t (ti t)) (hop : o.op = .convert src dst x) (hx : aY T x = some (.v (i.val s.length))) (ht : ti src = .mk agg size zero fs (some e) ik kk bytes) (hte : ti e = .mk agg2 size2 zero2 fs2 el2 (some .u8) kk2 bytes2) (htd : ti dst = .mk agg3 size3 zero3 fs3 el3 ik3 2 bytes3) (hd : Dst E o d)
   (hF : ∀ w, (∀ f ∈ F, f.P w) → RdS w i 1 (s.map fun b => .int .u8 (b.toNat : Int)) s.length) (hpos : 0 < s.length)
   (hnext : next (.mk ((d, .v (.string (bs s))) :: T) n c B M F)) : OpW (cQ E o next T n c B M F) := by
 refine ⟨fun A a w hW hT => ?_⟩
 refine aQ (jX0 hti hT hop hx ht hte htd (hF w (fun f hf => (hW.fct f hf).1)) hpos) ?_
 rw [hd.1]
 exact ⟨_, ⟨_, hW, hT.put (v := .v (.string (bs s))) hd.lt trivial⟩, hnext⟩
end
end Go.Sx
namespace Go.Proofs.YtchkcjeeknfchaaGreatDoor
set_option maxRecDepth 100000
set_option maxHeartbeats 100000000
open Go Go.Sx Go.RowKit
abbrev Str := List UInt8
def sW (c : UInt8) : Str → Str → List Str
 | acc, [] => [acc]
 | acc, x :: r => if x = c then acc :: sW c [] r else sW c (acc ++ [x]) r
def fI (c : UInt8) (s : Str) : List Str := sW c [] s
theorem vU (c : UInt8) : ∀ (s acc : Str), 1 ≤ (sW c acc s).length ∧ (sW c acc s).length ≤ s.length + 1
 | [], acc => by simp [sW]
 | x :: r, acc => by
   simp only [sW]
   split
   · have := vU c r []; simp only [List.length_cons]; omega
   · have := vU c r (acc ++ [x]); simp only [List.length_cons]; omega
theorem sX (c : UInt8) : ∀ (s acc : Str), ∀ x ∈ sW c acc s, x.length ≤ acc.length + s.length
 | [], acc, x, h => by simp only [sW, List.mem_singleton] at h; subst h; simp
 | y :: r, acc, x, h => by
   simp only [sW] at h
   split at h
   · rcases List.mem_cons.1 h with rfl | h
     · omega
     · have := sX c r [] x h; simp only [List.length_cons, List.length_nil] at this ⊢; omega
   · have := sX c r (acc ++ [y]) x h; simp only [List.length_cons, List.length_append, List.length_nil] at this ⊢; omega
theorem rU (c : UInt8) (s : Str) : 1 ≤ (fI c s).length ∧ (fI c s).length ≤ s.length + 1 := vU c s []
theorem pS {c : UInt8} {s x : Str} (h : x ∈ fI c s) : x.length ≤ s.length := by have := sX c s [] x h; simpa using this
def rV : Int → Str → Option Int
 | n, [] => some n
 | n, x :: r => if x.toNat < 48 ∨ 57 < x.toNat then none else rV (n * 10 + ((x.toNat : Int) - 48)) r
def vV (s : Str) : Bool := decide (s.head? = some 45)
def lY (s : Str) : Str := if vV s = true then s.drop 1 else s
def vW (s : Str) : Prop := (lY s).length = 0 ∨ 17 < (lY s).length ∨ ((lY s).head? = some 48 ∧ (1 < (lY s).length ∨ vV s = true))
instance (s : Str) : Decidable (vW s) := by unfold vW; exact inferInstance
def sY (s : Str) : Option Int := if vW s then none else (rV 0 (lY s)).map fun n => if vV s = true then -n else n
def nQ : Nat → Nat → Str → Str
 | 0, _, out => out
 | f + 1, n, out => if 9 < n then nQ f (n / 10) (UInt8.ofNat (48 + n % 10) :: out) else UInt8.ofNat (48 + n) :: out
def dF (n : Int) : Str := if n < 0 then 45 :: nQ 19 n.natAbs [] else nQ 19 n.toNat []
theorem rX : ∀ (f n : Nat) (out : Str), (nQ f n out).length ≤ out.length + f
 | 0, n, out => Nat.le_refl _
 | f + 1, n, out => by
   simp only [nQ]
   split
   · have := rX f (n / 10) (UInt8.ofNat (48 + n % 10) :: out); simp only [List.length_cons] at this; omega
   · simp only [List.length_cons]; omega
theorem gG (n : Int) : (dF n).length ≤ 20 := by
 unfold dF
 split
 · have := rX 19 n.natAbs []; simp only [List.length_cons, List.length_nil] at this ⊢; omega
 · have := rX 19 n.toNat []; simp only [List.length_nil] at this; omega
def wordsL : List Str := [[], [115, 97, 121], [97, 99, 113, 117, 105, 114, 101], [114, 101, 108, 101, 97, 115, 101], [111, 110, 99, 101], [97, 100, 100], [119, 97, 105, 116], [97, 114, 114, 105, 118, 101], [115, 101, 110, 100], [103, 101, 116], [99, 108, 111, 115, 101]]
def eW (k : Int) : Str := if k < 1 ∨ 10 < k then [] else wordsL.getD k.toNat []
def gU (k : Int) : Int := if k = 6 ∨ k = 7 ∨ k = 9 ∨ k = 10 then 1 else if k = 1 then 0 else 2
theorem cD0 : ∀ x ∈ wordsL, x.length ≤ 7 := by decide
theorem xL (k : Int) : (eW k).length ≤ 7 := by
 unfold eW
 split
 · simp
 · rw [List.getD_eq_getElem?_getD]
   cases h : wordsL[k.toNat]? with
   | none => simp
   | some x => exact cD0 x (List.mem_of_getElem? h)
def fC (o : Op) : Str := if eW o.kind = [] then [] else if gU o.kind = 0 then (eW o.kind ++ [32]) ++ dF o.arg else if gU o.kind = 1 then (eW o.kind ++ [32]) ++ dF o.on else (((eW o.kind ++ [32]) ++ dF o.on) ++ [32]) ++ dF o.arg
theorem cE0 (o : Op) : (fC o).length ≤ 60 := by
 have h1 := xL o.kind
 have h2 := gG o.on
 have h3 := gG o.arg
 unfold fC
 split
 · simp
 split
 · simp only [List.length_append, List.length_cons, List.length_nil]; omega
 split
 · simp only [List.length_append, List.length_cons, List.length_nil]; omega
 · simp only [List.length_append, List.length_cons, List.length_nil]; omega
def lI (k : Int) (ns : List Int) : Option Op :=
 if gU k = 0 then match ns with | [a] => some ⟨k, 0, a⟩ | _ => none
 else if gU k = 1 then match ns with | [a] => some ⟨k, a, 0⟩ | _ => none
 else match ns with | [a, b] => some ⟨k, a, b⟩ | _ => none
def fK : List Str → Option (List Int)
 | [] => some []
 | s :: r => match sY s with
   | none => none
   | some n => match fK r with
     | none => none
     | some l => some (n :: l)
def oE (t w : Str) (ns : List Int) : Nat → Nat → Option Op
 | 0, _ => none
 | f + 1, k => if eW k = w then match lI k ns with
     | some o => if fC o = t then some o else oE t w ns f (k + 1)
     | none => oE t w ns f (k + 1)
   else oE t w ns f (k + 1)
def eE (t : Str) : Option Op :=
 match fK (((fI 32 t).drop 1).take 3) with
 | none => none
 | some ns => if ns.length + 1 = (fI 32 t).length then oE t ((fI 32 t).headD []) ns 10 1 else none
def hC : Str → List Int → Str
 | out, [] => out
 | out, x :: r => hC ((out ++ [32]) ++ dF x) r
def eK (w : Str) (l : List Int) : Str := if l = [] then [] else hC w l ++ [10]
def nR : Bool → Str → List Op → Str
 | _, out, [] => out
 | first, out, o :: r => nR false (((if first = true then out else out ++ [44]) ++ [32]) ++ fC o) r
def fQ : Str → List (List Op) → Str
 | out, [] => out
 | out, t :: r => fQ (nR true (out ++ [116, 104, 114, 101, 97, 100]) t ++ [10]) r
def rY (p : Prog) : Str := fQ (((eK [115, 101, 109, 115] p.sems ++ eK [103, 114, 111, 117, 112, 115] p.groups) ++ eK [98, 97, 114, 114, 105, 101, 114, 115] p.barriers) ++ eK [114, 111, 111, 109, 115] p.rooms) p.threads
def rZ (line w : Str) : Option (List Int) :=
 if (fI 32 line).headD [] = w ∧ 2 ≤ (fI 32 line).length then match fK (((fI 32 line).drop 1).take 5) with
   | none => none
   | some ns => if ns.length + 1 = (fI 32 line).length then some ns else none
 else none
def eT0 : List Str → Option (List Op)
 | [] => some []
 | s :: r => match (if s.head? = some 32 then eE (s.drop 1) else none) with
   | none => none
   | some o => match eT0 r with
     | none => none
     | some l => some (o :: l)
def opsM : List Str → Option (List Op)
 | [] => some []
 | s :: r => match eE s with
   | none => none
   | some o => match eT0 r with
     | none => none
     | some l => some (o :: l)
def kM (line : Str) : Option (List Op) :=
 if line = [116, 104, 114, 101, 97, 100] then some []
 else if line.length < 7 ∨ line.take 7 ≠ [116, 104, 114, 101, 97, 100, 32] then none
 else match opsM ((fI 44 (line.drop 7)).take 9) with
   | none => none
   | some l => if (fI 44 (line.drop 7)).length ≤ 8 then some l else none
def kF (p : Prog) (line : Str) : Prog :=
 match rZ line [115, 101, 109, 115] with
 | some a => { p with sems := a }
 | none => match rZ line [103, 114, 111, 117, 112, 115] with
   | some a => { p with groups := a }
   | none => match rZ line [98, 97, 114, 114, 105, 101, 114, 115] with
     | some a => { p with barriers := a }
     | none => match rZ line [114, 111, 111, 109, 115] with
       | some a => { p with rooms := a }
       | none => match kM line with
         | some t => { p with threads := p.threads ++ [t] }
         | none => p
def qP (t : Str) : Prog := (((fI 10 t).take ((fI 10 t).length - 1)).take 9).foldl kF ⟨[], [], [], [], []⟩
def samplesL : List Str := [[115, 101, 109, 115, 32, 49, 10, 116, 104, 114, 101, 97, 100, 32, 97, 99, 113, 117, 105, 114, 101, 32, 48, 32, 49, 44, 32, 115, 97, 121, 32, 49, 44, 32, 114, 101, 108, 101, 97, 115, 101, 32, 48, 32, 49, 10, 116, 104, 114, 101, 97, 100, 32, 97, 99, 113, 117, 105, 114, 101, 32, 48, 32, 49, 44, 32, 115, 97, 121, 32, 50, 44, 32, 114, 101, 108, 101, 97, 115, 101, 32, 48, 32, 49, 10], [115, 101, 109, 115, 32, 49, 32, 49, 10, 116, 104, 114, 101, 97, 100, 32, 97, 99, 113, 117, 105, 114, 101, 32, 48, 32, 49, 44, 32, 97, 99, 113, 117, 105, 114, 101, 32, 49, 32, 49, 44, 32, 114, 101, 108, 101, 97, 115, 101, 32, 49, 32, 49, 44, 32, 114, 101, 108, 101, 97, 115, 101, 32, 48, 32, 49, 10, 116, 104, 114, 101, 97, 100, 32, 97, 99, 113, 117, 105, 114, 101, 32, 49, 32, 49, 44, 32, 97, 99, 113, 117, 105, 114, 101, 32, 48, 32, 49, 44, 32, 114, 101, 108, 101, 97, 115, 101, 32, 48, 32, 49, 44, 32, 114, 101, 108, 101, 97, 115, 101, 32, 49, 32, 49, 10], [103, 114, 111, 117, 112, 115, 32, 50, 10, 116, 104, 114, 101, 97, 100, 32, 115, 97, 121, 32, 49, 44, 32, 97, 100, 100, 32, 48, 32, 45, 49, 10, 116, 104, 114, 101, 97, 100, 32, 115, 97, 121, 32, 50, 44, 32, 97, 100, 100, 32, 48, 32, 45, 49, 10, 116, 104, 114, 101, 97, 100, 32, 119, 97, 105, 116, 32, 48, 44, 32, 115, 97, 121, 32, 51, 10], [98, 97, 114, 114, 105, 101, 114, 115, 32, 50, 10, 116, 104, 114, 101, 97, 100, 32, 115, 97, 121, 32, 49, 44, 32, 97, 114, 114, 105, 118, 101, 32, 48, 44, 32, 115, 97, 121, 32, 50, 10, 116, 104, 114, 101, 97, 100, 32, 97, 114, 114, 105, 118, 101, 32, 48, 44, 32, 115, 97, 121, 32, 51, 10], [114, 111, 111, 109, 115, 32, 48, 10, 116, 104, 114, 101, 97, 100, 32, 115, 101, 110, 100, 32, 48, 32, 55, 44, 32, 115, 97, 121, 32, 49, 10, 116, 104, 114, 101, 97, 100, 32, 103, 101, 116, 32, 48, 44, 32, 115, 97, 121, 32, 50, 10], [116, 104, 114, 101, 97, 100, 32, 111, 110, 99, 101, 32, 48, 32, 53, 44, 32, 115, 97, 121, 32, 49, 10, 116, 104, 114, 101, 97, 100, 32, 111, 110, 99, 101, 32, 48, 32, 54, 44, 32, 115, 97, 121, 32, 50, 10], [114, 111, 111, 109, 115, 32, 49, 10, 116, 104, 114, 101, 97, 100, 32, 115, 101, 110, 100, 32, 48, 32, 49, 44, 32, 115, 101, 110, 100, 32, 48, 32, 50, 44, 32, 99, 108, 111, 115, 101, 32, 48, 10, 116, 104, 114, 101, 97, 100, 32, 103, 101, 116, 32, 48, 44, 32, 103, 101, 116, 32, 48, 44, 32, 103, 101, 116, 32, 48, 10], [103, 114, 111, 117, 112, 115, 32, 49, 10, 116, 104, 114, 101, 97, 100, 32, 97, 100, 100, 32, 48, 32, 45, 49, 44, 32, 97, 100, 100, 32, 48, 32, 45, 49, 10, 116, 104, 114, 101, 97, 100, 32, 119, 97, 105, 116, 32, 48, 10]]
instance (xs : List Int) (a b : Int) : Decidable (gE xs a b) := by unfold gE; exact inferInstance
instance (p : Prog) (o : Op) : Decidable (p.argOk o) := by unfold Prog.argOk; exact inferInstance
instance (p : Prog) (o : Op) : Decidable (OpOk p o) := by unfold OpOk; exact inferInstance
instance (p : Prog) : Decidable (ProgOk p) := decidable_of_iff (gE p.sems 1 9 ∧ gE p.groups 0 9 ∧ gE p.barriers 1 6 ∧ gE p.rooms 0 4 ∧ 1 ≤ p.threads.length ∧ p.threads.length ≤ 4 ∧ ∀ t ∈ p.threads, t.length ≤ 8 ∧ ∀ o ∈ t, OpOk p o)
 ⟨fun ⟨a, b, c, d, e, f, g⟩ => ⟨a, b, c, d, e, f, g⟩, fun ⟨a, b, c, d, e, f, g⟩ => ⟨a, b, c, d, e, f, g⟩⟩
theorem cF0 : ∀ t ∈ samplesL, t.length ≤ 200 ∧ ProgOk (qP t) ∧ rY (qP t) = t := by decide +kernel
def xM (t : Int) : Str := if t = 1 then [63] else if t = 2 then [33] else if t = 3 then [46] else []
def qQ (f : Int) : Str := if f = 1 then [114, 101, 108, 101, 97, 115, 101] else if f = 2 then [97, 100, 100] else if f = 3 then [115, 101, 110, 100] else if f = 4 then [99, 108, 111, 115, 101] else []
def dS : List Str → Str
 | [] => []
 | [x] => x
 | x :: y :: r => x ++ 32 :: dS (y :: r)
theorem jG (x : Str) : ∀ {xs : List Str}, xs ≠ [] → dS (xs ++ [x]) = dS xs ++ 32 :: x
 | [], h => absurd rfl h
 | [y], _ => rfl
 | y :: z :: r, _ => by
   have ih := jG x (xs := z :: r) (by simp)
   show y ++ 32 :: dS (z :: r ++ [x]) = (y ++ 32 :: dS (z :: r)) ++ 32 :: x
   rw [ih, List.append_assoc]; rfl
def lJ (a t : Int) : Str := dF a ++ xM t
def cD : List Int → List Int → List Str
 | a :: ps, t :: ts => lJ a t :: cD ps ts
 | _, _ => []
def aO0 (s : State) : List Str := s.said.map dF ++ (if s.fault = 0 then [] else [[102, 97, 117, 108, 116], qQ s.fault])
def qD (s : State) : Str := dS (cD s.places s.status ++ [124] :: aO0 s)
theorem jT : ∀ {ps ts : List Int}, ps.length = ts.length → (cD ps ts).length = ps.length
 | [], _, _ => by simp [cD]
 | a :: ps, [], h => by simp at h
 | a :: ps, t :: ts, h => by rw [cD, List.length_cons, jT z83, List.length_cons]
theorem tR : ∀ {ps ts : List Int} (_h : ps.length = ts.length) {i : Nat} (h1 : i < ps.length) (h2 : i < ts.length), (cD ps ts)[i]? = some (lJ ps[i] ts[i])
 | a :: ps, t :: ts, h, 0, _, _ => rfl
 | a :: ps, t :: ts, h, i + 1, h1, h2 => by
   rw [cD, List.getElem?_cons_succ, tR z83 (by simpa using h1) (by simpa using h2)]; rfl
theorem qR : ∀ (f n : Nat) (out : Str) (c : UInt8), c ∈ nQ f n out → c ∈ out ∨ c ≠ 63
 | 0, n, out, c, h => .inl h
 | f + 1, n, out, c, h => by
   have key : ∀ m : Nat, m ≤ 9 → UInt8.ofNat (48 + m) ≠ 63 := by decide
   rw [nQ] at h
   split at h
   · rcases qR f _ _ c h with h | h
     · rcases List.mem_cons.1 h with rfl | h
       · exact .inr (key _ (by omega))
       · exact .inl h
     · exact .inr h
   · rcases List.mem_cons.1 h with rfl | h
     · exact .inr (key _ (by omega))
     · exact .inl h
theorem dT0 (n : Int) : (dF n).count 63 = 0 := by
 rw [List.count_eq_zero]
 intro h
 rw [dF] at h
 split at h
 · rcases List.mem_cons.1 h with h | h
   · cases h
   · rcases qR _ _ _ _ h with h | h
     · cases h
     · exact h rfl
 · rcases qR _ _ _ _ h with h | h
   · cases h
   · exact h rfl
theorem hG0 (t : Int) : (xM t).count 63 = if t = 1 then 1 else 0 := by
 rw [xM]
 by_cases h1 : t = 1
 · rw [if_pos h1, if_pos h1]; rfl
 rw [if_neg h1, if_neg h1]
 split
 · rfl
 split <;> rfl
theorem eU0 (t : Int) : (qQ t).count 63 = 0 := by
 rw [qQ]
 repeat' split
 all_goals rfl
theorem tS : ∀ xs : List Str, (dS xs).count 63 = (xs.map fun x => x.count 63).sum
 | [] => rfl
 | [x] => by simp [dS]
 | x :: y :: r => by
   rw [dS, List.count_append, List.count_cons_of_ne (by decide), tS (y :: r)]; simp
theorem qE : ∀ {ps ts : List Int}, ps.length = ts.length → ((cD ps ts).map fun x => x.count 63).sum = ts.count 1
 | [], [], _ => rfl
 | [], t :: ts, h => by simp at h
 | a :: ps, [], h => by simp at h
 | a :: ps, t :: ts, h => by
   have ih := qE (ps := ps) (ts := ts) z83
   rw [cD, List.map_cons, List.sum_cons, ih, lJ, List.count_append, dT0, hG0, List.count_cons]
   by_cases e : t = 1
   · simp [e]; omega
   · simp [e]
theorem aP0 (s : State) : ((aO0 s).map fun x => x.count 63).sum = 0 := by
 have h1 : ∀ l : List Int, ((l.map dF).map fun x => x.count 63).sum = 0 := by
   intro l
   induction l with
   | nil => rfl
   | cons x r ih => rw [List.map_cons, List.map_cons, List.sum_cons, ih, dT0]
 rw [aO0, List.map_append, List.sum_append, h1]
 split
 · rfl
 · simp [eU0]
theorem aQ0 {s : State} (h : s.places.length = s.status.length) : (qD s).count 63 = s.status.count 1 := by
 rw [qD, tS, List.map_append, List.sum_append, qE h, List.map_cons, List.sum_cons, aP0]; simp
theorem hH0 (s : State) : qD s ≠ [] := by
 intro h
 have hj : ∀ (xs ys : List Str), (124 : UInt8) ∈ dS (xs ++ [124] :: ys) := by
   intro xs ys
   induction xs with
   | nil => cases ys with
     | nil => exact .head _
     | cons y r => rw [List.nil_append, dS]; simp
   | cons x r ih =>
     cases hr : r ++ [124] :: ys with
     | nil => simp at hr
     | cons y q =>
       rw [List.cons_append, hr, dS]
       rw [hr] at ih
       exact List.mem_append_right _ (List.mem_cons_of_mem _ ih)
 have := hj (cD s.places s.status) (aO0 s)
 rw [← qD, h] at this
 cases this
theorem yU : ∀ xs : List Str, Lib.join xs [32] = dS xs
 | [] => rfl
 | [x] => by simp [Lib.join, dS, List.intercalate]
 | x :: y :: r => by
   have ih := yU (y :: r)
   rw [Lib.join] at ih ⊢
   rw [dS, ← ih]
   simp [List.intercalate]
theorem eV0 {i : Nat} (h : i < 100) : Lib.decDigits i = dF (i : Int) := by
 rw [dF, if_neg (by omega), Int.toNat_natCast, nQ]
 by_cases h9 : 9 < i
 · rw [if_pos h9, nQ, if_neg (by omega), Lib.decDigits, dif_neg (by omega), Lib.decDigits, dif_pos (by omega)]; rfl
 · rw [if_neg h9, Lib.decDigits, dif_pos (by omega)]
def signsL : List Str := [[], [63], [33], [46]]
def faultsL : List Str := [[], [114, 101, 108, 101, 97, 115, 101], [97, 100, 100], [115, 101, 110, 100], [99, 108, 111, 115, 101]]
theorem vX (t : Int) (h0 : 0 ≤ t) (h3 : t ≤ 3) : ∃ (j : Nat) (h : j < signsL.length), t = j ∧ signsL[j] = xM t := by
 obtain rfl | rfl | rfl | rfl : t = 0 ∨ t = 1 ∨ t = 2 ∨ t = 3 := by omega
 · exact ⟨0, by decide, rfl, rfl⟩
 · exact ⟨1, by decide, rfl, rfl⟩
 · exact ⟨2, by decide, rfl, rfl⟩
 · exact ⟨3, by decide, rfl, rfl⟩
theorem tT (t : Int) (h0 : 0 ≤ t) (h3 : t ≤ 4) : ∃ (j : Nat) (h : j < faultsL.length), t = j ∧ faultsL[j] = qQ t := by
 obtain rfl | rfl | rfl | rfl | rfl : t = 0 ∨ t = 1 ∨ t = 2 ∨ t = 3 ∨ t = 4 := by omega
 · exact ⟨0, by decide, rfl, rfl⟩
 · exact ⟨1, by decide, rfl, rfl⟩
 · exact ⟨2, by decide, rfl, rfl⟩
 · exact ⟨3, by decide, rfl, rfl⟩
 · exact ⟨4, by decide, rfl, rfl⟩
theorem sZ (t : Int) : (xM t).length ≤ 1 := by
 rw [xM]
 repeat' split
 all_goals decide
theorem qS (t : Int) : (qQ t).length ≤ 7 := by
 rw [qQ]
 repeat' split
 all_goals decide
structure TextOk (s : StateH) : Prop where
 len : s.places.length = s.status.length
 l1 : 1 ≤ s.places.length
 l4 : s.places.length ≤ 4
 at_ : ∀ (i : Nat) (h1 : i < s.places.length) (h2 : i < s.status.length), (0 ≤ s.places[i] ∧ s.places[i] ≤ 8) ∧ 0 ≤ s.status[i] ∧ s.status[i] ≤ 3
 l64 : s.said.length ≤ 64
 said : ∀ (i : Nat) (h : i < s.said.length), 0 ≤ s.said[i] ∧ s.said[i] ≤ 99
 f0 : 0 ≤ s.fault
 f4 : s.fault ≤ 4
theorem Fits.textOk {p : ProgH} {s : StateH} (f : Fits p.pure s.pure) : TextOk s := by
 have np : s.places.length = p.pure.threads.length := f.np
 have ns : s.status.length = p.pure.threads.length := f.ns
 have n1 := f.prog.n1
 have n4 := f.prog.n4
 refine ⟨by omega, by omega, by omega, fun i h1 h2 => ?_, f.lsaid, fun i h => ?_, f.f0, f.f4⟩
 · have hl : i < p.pure.threads.length := by omega
   have hth : p.pure.threads[i]? = some p.pure.threads[i] := List.getElem?_eq_getElem hl
   obtain ⟨a0, a1, hc⟩ := f.threads i _ _ _ hth (List.getElem?_eq_getElem h1) (List.getElem?_eq_getElem h2)
   have l8 := (f.prog.ops _ (List.mem_of_getElem? hth)).1
   refine ⟨⟨a0, by omega⟩, ?_⟩
   rcases hc with ⟨_, e, _⟩ | ⟨_, _, ⟨e, _⟩ | ⟨e, _⟩ | ⟨e, _⟩⟩ <;> omega
 · have := f.said _ (List.getElem_mem h)
   simp only [aR, Bool.and_eq_true, decide_eq_true_eq] at this
   exact this
theorem tU {ps ts : List Int} (h : ps.length = ts.length) {i : Nat} (h1 : i < ps.length) (h2 : i < ts.length) : (cD ps ts).take (i + 1) = (cD ps ts).take i ++ [lJ ps[i] ts[i]] := by
 have hg := tR h h1 h2
 have hl : i < (cD ps ts).length := by rw [jT h]; exact h1
 rw [List.take_succ_eq_append_getElem hl]
 rw [List.getElem?_eq_getElem hl] at hg
 rw [Option.some.inj hg]
theorem eW0 {xs : List Str} (x : Str) {n : Nat} (h : xs.length = n) : dS (xs ++ [x]) = (if n = 0 then dS xs else dS xs ++ [32]) ++ x := by
 by_cases h0 : n = 0
 · obtain rfl : xs = [] := List.eq_nil_of_length_eq_zero (by omega)
   rw [if_pos h0]; rfl
 · rw [if_neg h0, jG x (fun e => by subst e; simp at h; omega)]; simp
theorem hI0 (x y : Str) {xs : List Str} (h : xs ≠ []) : dS (xs ++ [x, y]) = dS xs ++ ([32] ++ x ++ [32] ++ y) := by
 have e : xs ++ [x, y] = (xs ++ [x]) ++ [y] := by simp
 rw [e, jG y (by simp), jG x h]; simp
def nS (s : State) : List Str := cD s.places s.status ++ [124] :: s.said.map dF
theorem pB (s : State) : qD s = dS (nS s ++ if s.fault = 0 then [] else [[102, 97, 117, 108, 116], qQ s.fault]) := by
 rw [qD, aO0, nS]; simp
theorem sA (m : Chan) (i s g : Sl) (w : World) (h : At w [slo i aL 1 m.items, slo s jY 2 m.senders, slo g aL 1 m.getters]) (hb : m.small) :
   Calls Tryz.prog 96 #[kZ m i s g] w (Ret w fun v L => v = .bool m.valid ∧ L = []) := by
 obtain ⟨b1, b2, b3⟩ := hb
 have bT : m.threads.length ≤ 8589934592 := by simp [Chan.threads]; omega
 have hno : ∀ {P : Prop}, ¬ P → (m.Valid → P) → ∀ A, hD A [SV.lit false] = Value.bool m.valid := fun h1 h2 _ => Chan.invalid fun hv => h1 (h2 hv)
 refine bU Tryz.func96 rfl aA w _ rfl _ rfl _ h z112 _ (by decide) ?_
 refine CaseB.mk (fun h1 => ?_) (fun h1 => ?_)
 · exact aG ⟨rfl, rfl⟩ (hno (by simp at h1; omega) Chan.Valid.r0)
 · have r0 : 0 ≤ m.room := by simp at h1; omega
   refine CaseB.mk (fun h2 => ?_) (fun h2 => ?_)
   · exact aG ⟨rfl, rfl⟩ (hno (by simp at h2; omega) Chan.Valid.r1)
   · have r1 : m.room ≤ 4 := by simp at h2; omega
     refine CaseB.mk (fun h3 => ?_) (fun h3 => ?_)
     · exact aG ⟨rfl, rfl⟩ (hno (by simp at h3; omega) Chan.Valid.it)
     · have it : (m.items.length : Int) ≤ m.room := by simp at h3; omega
       refine CaseB.mk (fun h4 => ?_) (fun h4 => ?_)
       · exact aG ⟨rfl, rfl⟩ (hno (P := m.senders.length ≤ 6) (by simp at h4; omega) (fun hv => by have := cJ hv.di; simp [Chan.threads] at this; omega))
       refine CaseB.mk (fun h5 => ?_) (fun h5 => ?_)
       · exact aG ⟨rfl, rfl⟩ (hno (P := m.getters.length ≤ 6) (by simp at h5; omega) (fun hv => by have := cJ hv.di; simp [Chan.threads] at this; omega))
       have e7 : m.senders.take 7 = m.senders := List.take_of_length_le (by simp at h4; omega)
       refine LoopW.mk ⟨{ k : Nat // k ≤ m.items.length ∧ ∀ x ∈ m.items.take k, aR x = true },
         fun p => .mk [(1, .p 0 0), (3, .v (.int .i64 p.1))] 1 0 [(0, 95, 5)] [((0, 0), .v (.int .i64 m.room)), ((0, 1), .v (i.val m.items.length)), ((0, 2), .v (s.val m.senders.length)), ((0, 3), .v (g.val m.getters.length)), ((0, 4), .v (.bool m.closed))] [slo i aL 1 m.items, slo s jY 2 m.senders, slo g aL 1 m.getters],
         fun p => m.items.length - p.1, ⟨0, Nat.zero_le _, by simp⟩, ?_, ?_⟩
       · exact aC [0, 1, 2] zw2 zw0 zw2 zw5 zw4 rfl rfl
       · rintro ⟨k, hk, ha⟩
         refine CaseB.mk (fun h => ?_) (fun h => ?_)
         · have hlt : k < m.items.length := by simpa using h
           refine aF aI aA rfl rfl rfl rfl rfl ⟨rfl, rfl⟩ z31 k rfl z37 (fun ad => ?_)
           refine aB _ uE rfl rfl rfl rfl ⟨rfl, rfl⟩ (fun A w hW => eM _ w) ?_
           rintro v L ⟨rfl, rfl⟩
           refine CaseB.mk (fun h => ?_) (fun h => ?_)
           · exact aG ⟨rfl, rfl⟩ (hno z83 (fun hv => hv.iv _ (List.getElem_mem hlt)))
           · have hw := oD k _ hlt b1
             refine ⟨⟨k + 1, by omega, gZ hlt ha z83⟩, ?_, by simp; omega⟩
             exact aC [0, 1, 2] zw1 zw0 zw1 zw5 zw3 rfl rfl
         · have hge : m.items.length ≤ k := by simpa using h
           rw [List.take_of_length_le hge] at ha
           refine LoopW.mk ⟨{ k : Nat // k ≤ m.senders.length ∧ ∀ x ∈ m.senders.take k, aR x.v = true },
             fun p => .mk [(1, .p 0 0), (4, .v (.int .i64 p.1))] 1 0 [(0, 95, 5)] [((0, 0), .v (.int .i64 m.room)), ((0, 1), .v (i.val m.items.length)), ((0, 2), .v (s.val m.senders.length)), ((0, 3), .v (g.val m.getters.length)), ((0, 4), .v (.bool m.closed))] [slo i aL 1 m.items, slo s jY 2 m.senders, slo g aL 1 m.getters],
             fun p => m.senders.length - p.1, ⟨0, Nat.zero_le _, by simp⟩, ?_, ?_⟩
           · exact aC [0, 1, 2] zw2 zw0 zw2 zw5 zw4 rfl rfl
           · rintro ⟨k, hk, hs⟩
             refine CaseB.mk (fun h => ?_) (fun h => ?_)
             · have hlt : k < m.senders.length := by simpa using h
               refine aF jZ aA rfl rfl rfl rfl rfl ⟨rfl, rfl⟩ z31 k rfl z37 (fun ad => ?_)
               refine aB _ uE rfl rfl rfl rfl ⟨rfl, rfl⟩ (fun A w hW => eM _ w) ?_
               rintro v L ⟨rfl, rfl⟩
               refine CaseB.mk (fun h => ?_) (fun h => ?_)
               · exact aG ⟨rfl, rfl⟩ (hno z83 (fun hv => hv.sv _ (List.getElem_mem hlt)))
               · have hw := oD k _ hlt b2
                 refine ⟨⟨k + 1, by omega, gZ (p := fun l : Letter => aR l.v = true) hlt hs z83⟩, ?_, by simp; omega⟩
                 exact aC [0, 1, 2] zw1 zw0 zw1 zw5 zw3 rfl rfl
             · have hge : m.senders.length ≤ k := by simpa using h
               rw [List.take_of_length_le hge] at hs
               refine aH aA z88 z88 z88 200 [((0, 2), .v (s.val m.senders.length)), ((0, 3), .v (g.val m.getters.length))] [0, 1, 2] [_, _, _] z107 z116 ⟨rfl, rfl, rfl, trivial⟩ rfl ?_
               refine bV _ jM0 rfl rfl rfl rfl ⟨rfl, rfl⟩ (fun A w hW => lT s m.senders w ⟨z30, trivial⟩ b2) ?_
               rw [e7]
               rintro v L ⟨y, rfl, rfl⟩
               refine oV (ti := aZ tab) aI aA  rfl rfl rfl rfl rfl rfl rfl rfl rfl (by decide) ⟨rfl, rfl⟩ z35 z31 z37 z37 z86 (fun z => ?_)
               refine bV _ dE0 rfl rfl rfl rfl ⟨rfl, rfl⟩ (fun A w hW => pP z m.threads w ⟨z30, trivial⟩ bT) ?_
               rintro v L ⟨rfl, rfl⟩
               refine CaseB.mk (fun h => ?_) (fun h => ?_)
               · exact aG ⟨rfl, rfl⟩ (hno z83 Chan.Valid.di)
               · have hd : aS m.threads = true := by simpa using h
                 have fin : (m.senders ≠ [] → (m.items.length : Int) = m.room ∧ m.getters = [] ∧ m.closed = false) → (m.getters ≠ [] → m.items = [] ∧ m.closed = false) → m.Valid := fun x y => ⟨r0, r1, it, ha, hs, hd, x, y⟩
                 refine CaseB.mk (fun q1 => ?_) (fun q1 => ?_)
                 · have hs1 : m.senders ≠ [] := dQ.1 q1
                   refine CaseB.mk (fun q2 => ?_) (fun q2 => ?_)
                   · exact aG ⟨rfl, rfl⟩ (fun _ => Chan.invalid (fun hv => by have := (hv.se hs1).1; simp at q2; omega))
                   · have e2 : (m.items.length : Int) = m.room := by simp at q2; omega
                     refine CaseB.mk (fun q3 => ?_) (fun q3 => ?_)
                     · exact aG ⟨rfl, rfl⟩ (fun _ => Chan.invalid (fun hv => dQ.1 q3 (hv.se hs1).2.1))
                     · have e3 : m.getters = [] := by
                         cases hg : m.getters with
                         | nil => rfl
                         | cons a r => rw [hg] at q3; simp at q3
                       refine CaseB.mk (fun q4 => ?_) (fun q4 => ?_)
                       · exact aG ⟨rfl, rfl⟩ (fun _ => Chan.invalid (fun hv => by have := (hv.se hs1).2.2; rw [q4] at this; cases this))
                       · have hS : m.senders ≠ [] → (m.items.length : Int) = m.room ∧ m.getters = [] ∧ m.closed = false := fun _ => ⟨e2, e3, q4⟩
                         refine CaseB.mk (fun q5 => ?_) (fun q5 => ?_)
                         · have hg : m.getters = [] := by simpa using q5
                           exact aG ⟨rfl, rfl⟩ (fun _ => Chan.isvalid (fin hS (fun hn => absurd hg hn)))
                         · have hg : m.getters ≠ [] := by simpa using q5
                           refine CaseB.mk (fun q6 => ?_) (fun q6 => ?_)
                           · have hi : m.items = [] := by simpa using q6
                             refine aG ⟨rfl, rfl⟩ (fun _ => ?_)
                             show Value.bool (!m.closed) = _
                             cases hc : m.closed with
                             | false => exact Chan.isvalid (fin hS (fun _ => ⟨hi, hc⟩))
                             | true => exact Chan.invalid (fun hv => by have := (hv.ge hg).2; rw [hc] at this; cases this)
                           · have hi : m.items ≠ [] := by simpa using q6
                             exact aG ⟨rfl, rfl⟩ (fun _ => Chan.invalid (fun hv => hi (hv.ge hg).1))
                 · have hs1 : m.senders = [] := by
                     cases hg : m.senders with
                     | nil => rfl
                     | cons a r => rw [hg] at q1; simp at q1
                   have hS : m.senders ≠ [] → (m.items.length : Int) = m.room ∧ m.getters = [] ∧ m.closed = false := fun hn => absurd hs1 hn
                   refine CaseB.mk (fun q5 => ?_) (fun q5 => ?_)
                   · have hg : m.getters = [] := by simpa using q5
                     exact aG ⟨rfl, rfl⟩ (fun _ => Chan.isvalid (fin hS (fun hn => absurd hg hn)))
                   · have hg : m.getters ≠ [] := by simpa using q5
                     refine CaseB.mk (fun q6 => ?_) (fun q6 => ?_)
                     · have hi : m.items = [] := by simpa using q6
                       refine aG ⟨rfl, rfl⟩ (fun _ => ?_)
                       show Value.bool (!m.closed) = _
                       cases hc : m.closed with
                       | false => exact Chan.isvalid (fin hS (fun _ => ⟨hi, hc⟩))
                       | true => exact Chan.invalid (fun hv => by have := (hv.ge hg).2; rw [hc] at this; cases this)
                     · have hi : m.items ≠ [] := by simpa using q6
                       exact aG ⟨rfl, rfl⟩ (fun _ => Chan.invalid (fun hv => hi (hv.ge hg).1))
theorem kN (m : Once) (q : Sl) (w : World) (h : At w [slo q aL 1 m.waits]) (hb : m.waits.length ≤ 1048576) :
   Calls Tryz.prog 93 #[lV m q] w (gC w (cS m)) := by
 refine bU Tryz.func93 rfl aA w _ rfl _ rfl _ h ⟨rfl, rfl, trivial⟩ _ (by decide) ?_
 refine CaseB.mk (fun k => ?_) (fun k0 => ?_)
 · have hx := uK (m := m) z84
   apply CaseB.mk <;> intro g
   rotate_left
   · have q : ¬ (m.owner = 0) := by simpa using g
     exact aG ⟨_, rfl, tno fun e => q (hx.1 e).1, rfl⟩ (fun _ => rfl)
   have c1 : m.owner = 0 := by simpa using g
   apply CaseB.mk <;> intro g
   rotate_left
   · have q : ¬ (m.value = 0) := by simpa using g
     exact aG ⟨_, rfl, tno fun e => q (hx.1 e).2.1, rfl⟩ (fun _ => rfl)
   have c2 : m.value = 0 := by simpa using g
   exact aG ⟨_, rfl, by rw [hx]; simp [c1, c2], rfl⟩ (fun _ => rfl)
 refine CaseB.mk (fun k => ?_) (fun k1 => ?_)
 · have hx := jI (m := m) z84
   refine aB _ oS rfl rfl rfl rfl ⟨rfl, rfl⟩ (fun A w hW => eC _ w) ?_
   rintro v L ⟨rfl, rfl⟩
   apply CaseB.mk <;> intro g
   rotate_left
   · have q : ¬ (aW m.owner = true) := by simpa using g
     exact aG ⟨_, rfl, tno fun e => q (hx.1 e).1, rfl⟩ (fun _ => rfl)
   have c1 : aW m.owner = true := g
   apply CaseB.mk <;> intro g
   rotate_left
   · have q : ¬ (m.value = 0) := by simpa using g
     exact aG ⟨_, rfl, tno fun e => q (hx.1 e).2.1, rfl⟩ (fun _ => rfl)
   have c2 : m.value = 0 := by simpa using g
   refine aB _ dE0 rfl rfl rfl rfl ⟨rfl, rfl⟩ (fun A w hW => pP q m.waits w ⟨z30, trivial⟩ (by omega)) ?_
   rintro v L ⟨rfl, rfl⟩
   apply CaseB.mk <;> intro g
   rotate_left
   · have q : ¬ (aS m.waits = true) := by simpa using g
     exact aG ⟨_, rfl, tno fun e => q (hx.1 e).2.2.1, rfl⟩ (fun _ => rfl)
   have c3 : aS m.waits = true := g
   refine aB _ lO rfl rfl rfl rfl ⟨rfl, rfl⟩ (fun A w hW => iT q m.waits m.owner w ⟨z30, trivial⟩ (by omega)) ?_
   rintro v L ⟨rfl, rfl⟩
   have hm := dU m.waits m.owner
   exact aG ⟨_, rfl, by rw [hx, ← hm]; simp [c1, c2, c3], rfl⟩ (fun _ => rfl)
 refine CaseB.mk (fun k => ?_) (fun k2 => ?_)
 · have hx := uL (m := m) z84
   refine aB _ oS rfl rfl rfl rfl ⟨rfl, rfl⟩ (fun A w hW => eC _ w) ?_
   rintro v L ⟨rfl, rfl⟩
   apply CaseB.mk <;> intro g
   rotate_left
   · have q : ¬ (aW m.owner = true) := by simpa using g
     exact aG ⟨_, rfl, tno fun e => q (hx.1 e).1, rfl⟩ (fun _ => rfl)
   have c1 : aW m.owner = true := g
   refine aB _ uE rfl rfl rfl rfl ⟨rfl, rfl⟩ (fun A w hW => eM _ w) ?_
   rintro v L ⟨rfl, rfl⟩
   apply CaseB.mk <;> intro g
   rotate_left
   · have q : ¬ (aR m.value = true) := by simpa using g
     exact aG ⟨_, rfl, tno fun e => q (hx.1 e).2.1, rfl⟩ (fun _ => rfl)
   have c2 : aR m.value = true := g
   exact aG ⟨_, rfl, by rw [hx]; simp [c1, c2], rfl⟩ (fun _ => rfl)
 exact aG ⟨_, rfl, tno (dS0 (by simpa using k0) (by simpa using k1) (by simpa using k2)), rfl⟩ (fun _ => rfl)
theorem mL (m : Group) (q : Sl) (w : World) (h : At w [slo q aL 1 m.waits]) (hb : m.waits.length ≤ 1048576) :
   Calls Tryz.prog 94 #[mJ m q] w (gC w (fE m)) := by
 refine bU Tryz.func94 rfl aA w _ rfl _ rfl _ h ⟨rfl, rfl, trivial⟩ _ (by decide) ?_
 refine aB _ uE rfl rfl rfl rfl ⟨rfl, rfl⟩ (fun A w hW => eM _ w) ?_
 rintro v L ⟨rfl, rfl⟩
 apply CaseB.mk <;> intro g
 rotate_left
 · have q : ¬ (aR m.count = true) := by simpa using g
   exact aG ⟨_, rfl, tno fun e => q e.1, rfl⟩ (fun _ => rfl)
 have c1 : aR m.count = true := g
 refine aB _ dE0 rfl rfl rfl rfl ⟨rfl, rfl⟩ (fun A w hW => pP q m.waits w ⟨z30, trivial⟩ (by omega)) ?_
 rintro v L ⟨rfl, rfl⟩
 apply CaseB.mk <;> intro g
 rotate_left
 · have q : ¬ (aS m.waits = true) := by simpa using g
   exact aG ⟨_, rfl, tno fun e => q e.2.1, rfl⟩ (fun _ => rfl)
 have c2 : aS m.waits = true := g
 apply CaseB.mk <;> intro g
 · have c3 : 0 < m.count := by have g' := of_decide_eq_true g; omega
   exact aG ⟨_, rfl, vR ⟨c1, c2, .inl c3⟩, rfl⟩ (fun _ => rfl)
 · have c3 : ¬ 0 < m.count := by have g' := of_decide_eq_false g; omega
   exact aG ⟨_, rfl, by simp [fE, c1, c2, c3], rfl⟩ (fun _ => rfl)
theorem oF (m : Barrier) (q : Sl) (w : World) (h : At w [slo q aL 1 m.waits]) (hb : m.waits.length ≤ 1048576) :
   Calls Tryz.prog 95 #[lD m q] w (gC w (dE m)) := by
 refine bU Tryz.func95 rfl aA w _ rfl _ rfl _ h ⟨rfl, rfl, trivial⟩ _ (by decide) ?_
 apply CaseB.mk <;> intro g
 rotate_left
 · have q : ¬ (1 ≤ m.parties) := by have g' := of_decide_eq_false g; omega
   exact aG ⟨_, rfl, tno fun e => q e.1, rfl⟩ (fun _ => rfl)
 have c1 : 1 ≤ m.parties := by have g' := of_decide_eq_true g; omega
 apply CaseB.mk <;> intro g
 rotate_left
 · have q : ¬ (m.parties ≤ 6) := by have g' := of_decide_eq_false g; omega
   exact aG ⟨_, rfl, tno fun e => q e.2.1, rfl⟩ (fun _ => rfl)
 have c2 : m.parties ≤ 6 := by have g' := of_decide_eq_true g; omega
 apply CaseB.mk <;> intro g
 rotate_left
 · have q : ¬ (0 ≤ m.round) := by have g' := of_decide_eq_false g; omega
   exact aG ⟨_, rfl, tno fun e => q e.2.2.1, rfl⟩ (fun _ => rfl)
 have c3 : 0 ≤ m.round := by have g' := of_decide_eq_true g; omega
 apply CaseB.mk <;> intro g
 rotate_left
 · have q : ¬ (m.round ≤ 9999) := by have g' := of_decide_eq_false g; omega
   exact aG ⟨_, rfl, tno fun e => q e.2.2.2.1, rfl⟩ (fun _ => rfl)
 have c4 : m.round ≤ 9999 := by have g' := of_decide_eq_true g; omega
 refine aB _ dE0 rfl rfl rfl rfl ⟨rfl, rfl⟩ (fun A w hW => pP q m.waits w ⟨z30, trivial⟩ (by omega)) ?_
 rintro v L ⟨rfl, rfl⟩
 apply CaseB.mk <;> intro g
 rotate_left
 · have q : ¬ (aS m.waits = true) := by simpa using g
   exact aG ⟨_, rfl, tno fun e => q e.2.2.2.2.2, rfl⟩ (fun _ => rfl)
 have c6 : aS m.waits = true := g
 exact aG ⟨_, rfl, by simp [dE, c1, c2, c3, c4, c6], rfl⟩ (fun _ => rfl)
theorem pC (m : Sem) (q : Sl) (w : World) (h : At w [slo q dL 2 m.queue]) (hb : m.queue.length ≤ 1048576) :
   Calls Tryz.prog 92 #[rK m q] w (gC w (SemOk m)) := by
 refine bU Tryz.func92 rfl aA w _ rfl _ rfl _ h ⟨rfl, rfl, trivial⟩ _ (by decide) ?_
 apply CaseB.mk <;> intro g
 · have q : ¬ (1 ≤ m.limit) := by have g' := of_decide_eq_true g; omega
   exact aG ⟨_, rfl, tno fun e => q e.l1, rfl⟩ (fun _ => rfl)
 have c1 : 1 ≤ m.limit := by have g' := of_decide_eq_false g; omega
 apply CaseB.mk <;> intro g
 · have q : ¬ (m.limit ≤ 9) := by have g' := of_decide_eq_true g; omega
   exact aG ⟨_, rfl, tno fun e => q e.l9, rfl⟩ (fun _ => rfl)
 have c2 : m.limit ≤ 9 := by have g' := of_decide_eq_false g; omega
 apply CaseB.mk <;> intro g
 · have q : ¬ (0 ≤ m.free) := by have g' := of_decide_eq_true g; omega
   exact aG ⟨_, rfl, tno fun e => q e.f0, rfl⟩ (fun _ => rfl)
 have c3 : 0 ≤ m.free := by have g' := of_decide_eq_false g; omega
 apply CaseB.mk <;> intro g
 · have q : ¬ (m.free ≤ m.limit) := by have g' := of_decide_eq_true g; omega
   exact aG ⟨_, rfl, tno fun e => q e.fl, rfl⟩ (fun _ => rfl)
 have c4 : m.free ≤ m.limit := by have g' := of_decide_eq_false g; omega
 apply CaseB.mk <;> intro g
 · have q : ¬ (m.queue.length ≤ 6) := by have g' := of_decide_eq_true g; omega
   exact aG ⟨_, rfl, tno fun e => q e.q6, rfl⟩ (fun _ => rfl)
 have c5 : m.queue.length ≤ 6 := by have g' := of_decide_eq_false g; omega
 refine LoopW.mk ⟨{ k : Nat // k ≤ m.queue.length ∧ (∀ w ∈ m.queue.take k, 1 ≤ w.n ∧ w.n ≤ m.limit) ∧ aS ((m.queue.map (·.t)).take k) = true },
   fun p => .mk [(1, .p 0 0), (3, .v (.int .i64 (p.1 : Int)))] 1 0 [(0, 85, 3)] [((0, 0), .v (.int .i64 m.free)), ((0, 1), .v (.int .i64 m.limit)), ((0, 2), .v (q.val m.queue.length))] [slo q dL 2 m.queue],
   fun p => m.queue.length - p.1, ⟨0, Nat.zero_le _, by simp, by simp [aS]⟩, ?_, ?_⟩
 · exact aC [0] zw2 zw0 zw2 zw5 zw4 rfl rfl
 rintro ⟨k, hk, hinv, hdi⟩
 apply CaseB.mk <;> intro g
 · have hlt : k < m.queue.length := by simpa using g
   have hltm : k < (m.queue.map (·.t)).length := by simpa using hlt
   have hw := oD k _ hlt (by omega)
   have hsub : aS (m.queue.map (·.t)) = true → aW (m.queue[k]).t = true ∧ (m.queue[k]).t ∉ (m.queue.map (·.t)).take k := fun e => by
     simp only [aS, decide_eq_true_eq] at e
     refine ⟨e.2 _ (List.mem_map_of_mem (List.getElem_mem hlt)), fun hm => ?_⟩
     have hn := e.1
     rw [← List.take_append_drop k (m.queue.map (·.t)), List.nodup_append] at hn
     refine hn.2.2 _ hm _ ?_ rfl
     rw [List.drop_eq_getElem_cons hltm]
     simp
   refine aF cW aA rfl rfl rfl rfl rfl ⟨rfl, rfl⟩ (gN 0 rfl) k rfl z37 (fun ad => ?_)
   refine aB _ oS rfl rfl rfl rfl ⟨rfl, rfl⟩ (fun A w hW => eC _ w) ?_
   rintro v L ⟨rfl, rfl⟩
   apply CaseB.mk <;> intro g
   · exact aG ⟨_, rfl, tno fun e => (by rw [(hsub e.dis).1] at g; cases g), rfl⟩ (fun _ => rfl)
   have d0 : aW (m.queue[k]).t = true := by simpa using g
   apply CaseB.mk <;> intro g
   · have q : ¬ (1 ≤ (m.queue[k]).n) := by have g' := of_decide_eq_true g; omega
     exact aG ⟨_, rfl, tno fun e => q (e.cnt _ (List.getElem_mem hlt)).1, rfl⟩ (fun _ => rfl)
   have d1 : 1 ≤ (m.queue[k]).n := by have g' := of_decide_eq_false g; omega
   apply CaseB.mk <;> intro g
   · have q : ¬ ((m.queue[k]).n ≤ m.limit) := by have g' := of_decide_eq_true g; omega
     exact aG ⟨_, rfl, tno fun e => q (e.cnt _ (List.getElem_mem hlt)).2, rfl⟩ (fun _ => rfl)
   have d2 : (m.queue[k]).n ≤ m.limit := by have g' := of_decide_eq_false g; omega
   refine LoopW.mk ⟨{ j : Nat // j ≤ k ∧ (m.queue[k]).t ∉ (m.queue.map (·.t)).take j },
     fun j => .mk [(1, .p 0 0), (3, .v (.int .i64 (k : Int))), (4, .p 1 0), (5, .v (.int .i64 (j.1 : Int)))] 2 0 [(0, 85, 3), (1, 161, 2)] [((0, 0), .v (.int .i64 m.free)), ((0, 1), .v (.int .i64 m.limit)), ((0, 2), .v (q.val m.queue.length)), ((1, 0), .v (.int .i64 (m.queue[k]).t))] [slo q dL 2 m.queue],
     fun j => k - j.1, ⟨0, Nat.zero_le _, by simp⟩, ?_, ?_⟩
   · exact aC [0] zw2 zw0 zw2 zw5 zw4 rfl rfl
   rintro ⟨j, hj, hnm⟩
   apply CaseB.mk <;> intro g
   · have hlj : j < k := by simpa using g
     have hlj2 : j < m.queue.length := by omega
     have hwj := oD j k hlj (by omega)
     refine aH aA z88 z88 z88 200 [((0, 0), .v (.int .i64 m.free)), ((0, 1), .v (.int .i64 m.limit)), ((0, 2), .v (q.val m.queue.length)), ((1, 0), .v (.int .i64 (m.queue[k]).t))] [0] [_] z98 z110 ⟨rfl, trivial⟩ rfl ?_
     refine bM (ti := aZ tab) cW aA rfl rfl rfl rfl rfl ⟨rfl, rfl⟩ (gN 0 rfl) j rfl z37 (fun ad2 => ?_)
     apply CaseB.mk <;> intro g
     · have q : (m.queue[j]).t = (m.queue[k]).t := by simpa using g
       refine aG ⟨_, rfl, tno fun e => (hsub e.dis).2 ?_, rfl⟩ (fun _ => rfl)
       rw [← q, List.mem_take_iff_getElem]
       exact ⟨j, by simp; omega, by simp⟩
     · have q : ¬ (m.queue[j]).t = (m.queue[k]).t := by simpa using g
       refine ⟨⟨j + 1, by omega, ?_⟩, ?_, by simp only; omega⟩
       · rw [List.take_succ_eq_append_getElem (by simpa using hlj2)]
         simp only [List.mem_append, List.mem_singleton, List.getElem_map, not_or]
         exact ⟨hnm, fun e => q e.symm⟩
       · exact aC [0] zw6 zw0 zw6 zw5 zw13 rfl rfl
   have hjk : j = k := by have : ¬ (j : Int) < k := by simpa using g
                          omega
   subst hjk
   refine ⟨⟨j + 1, by omega, fun x hx => ?_, ?_⟩, ?_, by simp only; omega⟩
   · rw [List.take_succ_eq_append_getElem hlt] at hx
     rcases List.mem_append.1 hx with hx | hx
     · exact hinv x hx
     · simp at hx; subst hx; exact ⟨d1, d2⟩
   · rw [List.take_succ_eq_append_getElem hltm]
     simp only [aS, decide_eq_true_eq] at hdi ⊢
     refine ⟨?_, fun x hx => ?_⟩
     · rw [List.nodup_append]
       refine ⟨hdi.1, by simp, fun a ha b hb => ?_⟩
       simp at hb; subst hb
       rintro rfl
       exact hnm ha
     · rcases List.mem_append.1 hx with hx | hx
       · exact hdi.2 x hx
       · simp at hx; subst hx; exact d0
   · exact aC [0] zw1 zw0 zw1 zw5 zw3 rfl rfl
 have hge : m.queue.length ≤ k := by simpa using g
 rw [List.take_of_length_le hge] at hinv
 rw [List.take_of_length_le z79] at hdi
 refine aH aA z88 z88 z88 200 [((0, 0), .v (.int .i64 m.free)), ((0, 1), .v (.int .i64 m.limit)), ((0, 2), .v (q.val m.queue.length))] [0] [_] z102 z113 ⟨rfl, trivial⟩ rfl ?_
 apply CaseB.mk <;> intro g
 · have c7 : m.queue = [] := by simpa using g
   exact aG ⟨_, rfl, vR ⟨c1, c2, c3, c4, c5, hinv, hdi, by rw [c7]; simp⟩, rfl⟩ (fun _ => rfl)
 have c7 : 0 < m.queue.length := by have g' : ¬ m.queue = [] := by simpa using g
                                    exact List.length_pos_iff.2 g'
 refine bM (ti := aZ tab) cW aA rfl rfl rfl rfl rfl ⟨rfl, rfl⟩ (gN 0 rfl) 0 rfl z37 (fun ad => ?_)
 refine aG ⟨_, rfl, ?_, rfl⟩ (fun _ => rfl)
 have hh : ∀ w, m.queue[0]? = some w → w = m.queue[0] := fun w hw => by rw [List.getElem?_eq_getElem c7] at hw; injection hw with hw; exact hw.symm
 constructor
 · intro g
   have g' := of_decide_eq_true g
   exact ⟨c1, c2, c3, c4, c5, hinv, hdi, fun w hw => by rw [hh w hw]; omega⟩
 · intro e
   have := e.hd _ (List.getElem?_eq_getElem c7)
   exact decide_eq_true (by omega)
end Go.Proofs.YtchkcjeeknfchaaGreatDoor
