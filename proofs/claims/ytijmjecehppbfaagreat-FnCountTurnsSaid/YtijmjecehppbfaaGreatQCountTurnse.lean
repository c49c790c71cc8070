/- FnCountTurns: texts that its proof stands on, part 5. -/
import Derived.Test.YtijmjecehppbfaaGreatQCountTurnsd
namespace Go.Proofs.YtijmjecehppbfaaGreat
set_option maxRecDepth 100000
set_option maxHeartbeats 100000000
open Go Go.Sx Go.RowKit
theorem oY (m : Once) (q : Sl) (w : World) (h : At w [slo q aJ 1 m.waits]) (hb : m.waits.length ≤ 1048576) :
   Calls Tryz.prog 180 #[kO m q] w (gZ w (eG m)) := by
 refine bV Tryz.func180 rfl aA w _ rfl _ rfl _ h ⟨rfl, rfl, trivial⟩ _ (by decide) ?_
 refine CaseB.mk (fun k => ?_) (fun k0 => ?_)
 · have hx := aX0 (m := m) z102
   apply CaseB.mk <;> intro g
   rotate_left
   · have q : ¬ (m.owner = 0) := by simpa using g
     exact aI ⟨_, rfl, tno fun e => q (hx.1 e).1, rfl⟩ (fun _ => rfl)
   have c1 : m.owner = 0 := by simpa using g
   apply CaseB.mk <;> intro g
   rotate_left
   · have q : ¬ (m.value = 0) := by simpa using g
     exact aI ⟨_, rfl, tno fun e => q (hx.1 e).2.1, rfl⟩ (fun _ => rfl)
   have c2 : m.value = 0 := by simpa using g
   exact aI ⟨_, rfl, by rw [hx]; simp [c1, c2], rfl⟩ (fun _ => rfl)
 refine CaseB.mk (fun k => ?_) (fun k1 => ?_)
 · have hx := qZ (m := m) z102
   refine aB _ rT rfl rfl rfl rfl ⟨rfl, rfl⟩ (fun A w hW => fV _ w) ?_
   rintro v L ⟨rfl, rfl⟩
   apply CaseB.mk <;> intro g
   rotate_left
   · have q : ¬ (bA m.owner = true) := by simpa using g
     exact aI ⟨_, rfl, tno fun e => q (hx.1 e).1, rfl⟩ (fun _ => rfl)
   have c1 : bA m.owner = true := g
   apply CaseB.mk <;> intro g
   rotate_left
   · have q : ¬ (m.value = 0) := by simpa using g
     exact aI ⟨_, rfl, tno fun e => q (hx.1 e).2.1, rfl⟩ (fun _ => rfl)
   have c2 : m.value = 0 := by simpa using g
   refine aB _ fR0 rfl rfl rfl rfl ⟨rfl, rfl⟩ (fun A w hW => qY q m.waits w ⟨z39, trivial⟩ (by omega)) ?_
   rintro v L ⟨rfl, rfl⟩
   apply CaseB.mk <;> intro g
   rotate_left
   · have q : ¬ (bD m.waits = true) := by simpa using g
     exact aI ⟨_, rfl, tno fun e => q (hx.1 e).2.2.1, rfl⟩ (fun _ => rfl)
   have c3 : bD m.waits = true := g
   refine aB _ uN rfl rfl rfl rfl ⟨rfl, rfl⟩ (fun A w hW => kR q m.waits m.owner w ⟨z39, trivial⟩ (by omega)) ?_
   rintro v L ⟨rfl, rfl⟩
   have hm := eM m.waits m.owner
   exact aI ⟨_, rfl, by rw [hx, ← hm]; simp [c1, c2, c3], rfl⟩ (fun _ => rfl)
 refine CaseB.mk (fun k => ?_) (fun k2 => ?_)
 · have hx := aY0 (m := m) z102
   refine aB _ rT rfl rfl rfl rfl ⟨rfl, rfl⟩ (fun A w hW => fV _ w) ?_
   rintro v L ⟨rfl, rfl⟩
   apply CaseB.mk <;> intro g
   rotate_left
   · have q : ¬ (bA m.owner = true) := by simpa using g
     exact aI ⟨_, rfl, tno fun e => q (hx.1 e).1, rfl⟩ (fun _ => rfl)
   have c1 : bA m.owner = true := g
   refine aB _ pX rfl rfl rfl rfl ⟨rfl, rfl⟩ (fun A w hW => gE _ w) ?_
   rintro v L ⟨rfl, rfl⟩
   apply CaseB.mk <;> intro g
   rotate_left
   · have q : ¬ (aW m.value = true) := by simpa using g
     exact aI ⟨_, rfl, tno fun e => q (hx.1 e).2.1, rfl⟩ (fun _ => rfl)
   have c2 : aW m.value = true := g
   exact aI ⟨_, rfl, by rw [hx]; simp [c1, c2], rfl⟩ (fun _ => rfl)
 exact aI ⟨_, rfl, tno (gA0 (by simpa using k0) (by simpa using k1) (by simpa using k2)), rfl⟩ (fun _ => rfl)
theorem oA (m : Group) (q : Sl) (w : World) (h : At w [slo q aJ 1 m.waits]) (hb : m.waits.length ≤ 1048576) :
   Calls Tryz.prog 175 #[lQ m q] w (gZ w (eY m)) := by
 refine bV Tryz.func175 rfl aA w _ rfl _ rfl _ h ⟨rfl, rfl, trivial⟩ _ (by decide) ?_
 refine aB _ pX rfl rfl rfl rfl ⟨rfl, rfl⟩ (fun A w hW => gE _ w) ?_
 rintro v L ⟨rfl, rfl⟩
 apply CaseB.mk <;> intro g
 rotate_left
 · have q : ¬ (aW m.count = true) := by simpa using g
   exact aI ⟨_, rfl, tno fun e => q e.1, rfl⟩ (fun _ => rfl)
 have c1 : aW m.count = true := g
 refine aB _ fR0 rfl rfl rfl rfl ⟨rfl, rfl⟩ (fun A w hW => qY q m.waits w ⟨z39, trivial⟩ (by omega)) ?_
 rintro v L ⟨rfl, rfl⟩
 apply CaseB.mk <;> intro g
 rotate_left
 · have q : ¬ (bD m.waits = true) := by simpa using g
   exact aI ⟨_, rfl, tno fun e => q e.2.1, rfl⟩ (fun _ => rfl)
 have c2 : bD m.waits = true := g
 apply CaseB.mk <;> intro g
 · have c3 : 0 < m.count := by have g' := of_decide_eq_true g; omega
   exact aI ⟨_, rfl, iZ ⟨c1, c2, .inl c3⟩, rfl⟩ (fun _ => rfl)
 · have c3 : ¬ 0 < m.count := by have g' := of_decide_eq_false g; omega
   exact aI ⟨_, rfl, by simp [eY, c1, c2, c3], rfl⟩ (fun _ => rfl)
theorem pJ (m : Barrier) (q : Sl) (w : World) (h : At w [slo q aJ 1 m.waits]) (hb : m.waits.length ≤ 1048576) :
   Calls Tryz.prog 176 #[lE m q] w (gZ w (dO m)) := by
 refine bV Tryz.func176 rfl aA w _ rfl _ rfl _ h ⟨rfl, rfl, trivial⟩ _ (by decide) ?_
 apply CaseB.mk <;> intro g
 rotate_left
 · have q : ¬ (1 ≤ m.parties) := by have g' := of_decide_eq_false g; omega
   exact aI ⟨_, rfl, tno fun e => q e.1, rfl⟩ (fun _ => rfl)
 have c1 : 1 ≤ m.parties := by have g' := of_decide_eq_true g; omega
 apply CaseB.mk <;> intro g
 rotate_left
 · have q : ¬ (m.parties ≤ 6) := by have g' := of_decide_eq_false g; omega
   exact aI ⟨_, rfl, tno fun e => q e.2.1, rfl⟩ (fun _ => rfl)
 have c2 : m.parties ≤ 6 := by have g' := of_decide_eq_true g; omega
 apply CaseB.mk <;> intro g
 rotate_left
 · have q : ¬ (0 ≤ m.round) := by have g' := of_decide_eq_false g; omega
   exact aI ⟨_, rfl, tno fun e => q e.2.2.1, rfl⟩ (fun _ => rfl)
 have c3 : 0 ≤ m.round := by have g' := of_decide_eq_true g; omega
 apply CaseB.mk <;> intro g
 rotate_left
 · have q : ¬ (m.round ≤ 9999) := by have g' := of_decide_eq_false g; omega
   exact aI ⟨_, rfl, tno fun e => q e.2.2.2.1, rfl⟩ (fun _ => rfl)
 have c4 : m.round ≤ 9999 := by have g' := of_decide_eq_true g; omega
 refine aB _ fR0 rfl rfl rfl rfl ⟨rfl, rfl⟩ (fun A w hW => qY q m.waits w ⟨z39, trivial⟩ (by omega)) ?_
 rintro v L ⟨rfl, rfl⟩
 apply CaseB.mk <;> intro g
 rotate_left
 · have q : ¬ (bD m.waits = true) := by simpa using g
   exact aI ⟨_, rfl, tno fun e => q e.2.2.2.2.2, rfl⟩ (fun _ => rfl)
 have c6 : bD m.waits = true := g
 exact aI ⟨_, rfl, by simp [dO, c1, c2, c3, c4, c6], rfl⟩ (fun _ => rfl)
theorem qE (m : Sem) (q : Sl) (w : World) (h : At w [slo q cG 2 m.queue]) (hb : m.queue.length ≤ 1048576) :
   Calls Tryz.prog 169 #[pM m q] w (gZ w (SemOk m)) := by
 refine bV Tryz.func169 rfl aA w _ rfl _ rfl _ h ⟨rfl, rfl, trivial⟩ _ (by decide) ?_
 apply CaseB.mk <;> intro g
 · have q : ¬ (1 ≤ m.limit) := by have g' := of_decide_eq_true g; omega
   exact aI ⟨_, rfl, tno fun e => q e.l1, rfl⟩ (fun _ => rfl)
 have c1 : 1 ≤ m.limit := by have g' := of_decide_eq_false g; omega
 apply CaseB.mk <;> intro g
 · have q : ¬ (m.limit ≤ 9) := by have g' := of_decide_eq_true g; omega
   exact aI ⟨_, rfl, tno fun e => q e.l9, rfl⟩ (fun _ => rfl)
 have c2 : m.limit ≤ 9 := by have g' := of_decide_eq_false g; omega
 apply CaseB.mk <;> intro g
 · have q : ¬ (0 ≤ m.free) := by have g' := of_decide_eq_true g; omega
   exact aI ⟨_, rfl, tno fun e => q e.f0, rfl⟩ (fun _ => rfl)
 have c3 : 0 ≤ m.free := by have g' := of_decide_eq_false g; omega
 apply CaseB.mk <;> intro g
 · have q : ¬ (m.free ≤ m.limit) := by have g' := of_decide_eq_true g; omega
   exact aI ⟨_, rfl, tno fun e => q e.fl, rfl⟩ (fun _ => rfl)
 have c4 : m.free ≤ m.limit := by have g' := of_decide_eq_false g; omega
 apply CaseB.mk <;> intro g
 · have q : ¬ (m.queue.length ≤ 6) := by have g' := of_decide_eq_true g; omega
   exact aI ⟨_, rfl, tno fun e => q e.q6, rfl⟩ (fun _ => rfl)
 have c5 : m.queue.length ≤ 6 := by have g' := of_decide_eq_false g; omega
 refine LoopW.mk ⟨{ k : Nat // k ≤ m.queue.length ∧ (∀ w ∈ m.queue.take k, 1 ≤ w.n ∧ w.n ≤ m.limit) ∧ bD ((m.queue.map (·.t)).take k) = true },
   fun p => .mk [(1, .p 0 0), (3, .v (.int .i64 (p.1 : Int)))] 1 0 [(0, 95, 3)] [((0, 0), .v (.int .i64 m.free)), ((0, 1), .v (.int .i64 m.limit)), ((0, 2), .v (q.val m.queue.length))] [slo q cG 2 m.queue],
   fun p => m.queue.length - p.1, ⟨0, Nat.zero_le _, by simp, by simp [bD]⟩, ?_, ?_⟩
 · exact aC [0] zw2 zw0 zw2 zw5 zw4 rfl rfl
 rintro ⟨k, hk, hinv, hdi⟩
 apply CaseB.mk <;> intro g
 · have hlt : k < m.queue.length := by simpa using g
   have hltm : k < (m.queue.map (·.t)).length := by simpa using hlt
   have hw := nI k _ hlt (by omega)
   have hsub : bD (m.queue.map (·.t)) = true → bA (m.queue[k]).t = true ∧ (m.queue[k]).t ∉ (m.queue.map (·.t)).take k := fun e => by
     simp only [bD, decide_eq_true_eq] at e
     refine ⟨e.2 _ (List.mem_map_of_mem (List.getElem_mem hlt)), fun hm => ?_⟩
     have hn := e.1
     rw [← List.take_append_drop k (m.queue.map (·.t)), List.nodup_append] at hn
     refine hn.2.2 _ hm _ ?_ rfl
     rw [List.drop_eq_getElem_cons hltm]
     simp
   refine aG cI aA rfl rfl rfl rfl rfl ⟨rfl, rfl⟩ (hH 0 rfl) k rfl z48 (fun ad => ?_)
   refine aB _ rT rfl rfl rfl rfl ⟨rfl, rfl⟩ (fun A w hW => fV _ w) ?_
   rintro v L ⟨rfl, rfl⟩
   apply CaseB.mk <;> intro g
   · exact aI ⟨_, rfl, tno fun e => (by rw [(hsub e.dis).1] at g; cases g), rfl⟩ (fun _ => rfl)
   have d0 : bA (m.queue[k]).t = true := by simpa using g
   apply CaseB.mk <;> intro g
   · have q : ¬ (1 ≤ (m.queue[k]).n) := by have g' := of_decide_eq_true g; omega
     exact aI ⟨_, rfl, tno fun e => q (e.cnt _ (List.getElem_mem hlt)).1, rfl⟩ (fun _ => rfl)
   have d1 : 1 ≤ (m.queue[k]).n := by have g' := of_decide_eq_false g; omega
   apply CaseB.mk <;> intro g
   · have q : ¬ ((m.queue[k]).n ≤ m.limit) := by have g' := of_decide_eq_true g; omega
     exact aI ⟨_, rfl, tno fun e => q (e.cnt _ (List.getElem_mem hlt)).2, rfl⟩ (fun _ => rfl)
   have d2 : (m.queue[k]).n ≤ m.limit := by have g' := of_decide_eq_false g; omega
   refine LoopW.mk ⟨{ j : Nat // j ≤ k ∧ (m.queue[k]).t ∉ (m.queue.map (·.t)).take j },
     fun j => .mk [(1, .p 0 0), (3, .v (.int .i64 (k : Int))), (4, .p 1 0), (5, .v (.int .i64 (j.1 : Int)))] 2 0 [(0, 95, 3), (1, 184, 2)] [((0, 0), .v (.int .i64 m.free)), ((0, 1), .v (.int .i64 m.limit)), ((0, 2), .v (q.val m.queue.length)), ((1, 0), .v (.int .i64 (m.queue[k]).t))] [slo q cG 2 m.queue],
     fun j => k - j.1, ⟨0, Nat.zero_le _, by simp⟩, ?_, ?_⟩
   · exact aC [0] zw2 zw0 zw2 zw5 zw4 rfl rfl
   rintro ⟨j, hj, hnm⟩
   apply CaseB.mk <;> intro g
   · have hlj : j < k := by simpa using g
     have hlj2 : j < m.queue.length := by omega
     have hwj := nI j k hlj (by omega)
     refine aE aA z107 z107 z107 200 [((0, 0), .v (.int .i64 m.free)), ((0, 1), .v (.int .i64 m.limit)), ((0, 2), .v (q.val m.queue.length)), ((1, 0), .v (.int .i64 (m.queue[k]).t))] [0] [_] z129 z145 ⟨rfl, trivial⟩ rfl ?_
     refine bM (ti := aU tab) cI aA rfl rfl rfl rfl rfl ⟨rfl, rfl⟩ (hH 0 rfl) j rfl z48 (fun ad2 => ?_)
     apply CaseB.mk <;> intro g
     · have q : (m.queue[j]).t = (m.queue[k]).t := by simpa using g
       refine aI ⟨_, rfl, tno fun e => (hsub e.dis).2 ?_, rfl⟩ (fun _ => rfl)
       rw [← q, List.mem_take_iff_getElem]
       exact ⟨j, by simp; omega, by simp⟩
     · have q : ¬ (m.queue[j]).t = (m.queue[k]).t := by simpa using g
       refine ⟨⟨j + 1, by omega, ?_⟩, ?_, by simp only; omega⟩
       · rw [List.take_succ_eq_append_getElem (by simpa using hlj2)]
         simp only [List.mem_append, List.mem_singleton, List.getElem_map, not_or]
         exact ⟨hnm, fun e => q e.symm⟩
       · exact aC [0] zw6 zw0 zw6 zw5 zw12 rfl rfl
   have hjk : j = k := by have : ¬ (j : Int) < k := by simpa using g
                          omega
   subst hjk
   refine ⟨⟨j + 1, by omega, fun x hx => ?_, ?_⟩, ?_, by simp only; omega⟩
   · rw [List.take_succ_eq_append_getElem hlt] at hx
     rcases List.mem_append.1 hx with hx | hx
     · exact hinv x hx
     · simp at hx; subst hx; exact ⟨d1, d2⟩
   · rw [List.take_succ_eq_append_getElem hltm]
     simp only [bD, decide_eq_true_eq] at hdi ⊢
     refine ⟨?_, fun x hx => ?_⟩
     · rw [List.nodup_append]
       refine ⟨hdi.1, by simp, fun a ha b hb => ?_⟩
       simp at hb; subst hb
       rintro rfl
       exact hnm ha
     · rcases List.mem_append.1 hx with hx | hx
       · exact hdi.2 x hx
       · simp at hx; subst hx; exact d0
   · exact aC [0] zw1 zw0 zw1 zw5 zw3 rfl rfl
 have hge : m.queue.length ≤ k := by simpa using g
 rw [List.take_of_length_le hge] at hinv
 rw [List.take_of_length_le z96] at hdi
 refine aE aA z107 z107 z107 200 [((0, 0), .v (.int .i64 m.free)), ((0, 1), .v (.int .i64 m.limit)), ((0, 2), .v (q.val m.queue.length))] [0] [_] z136 z148 ⟨rfl, trivial⟩ rfl ?_
 apply CaseB.mk <;> intro g
 · have c7 : m.queue = [] := by simpa using g
   exact aI ⟨_, rfl, iZ ⟨c1, c2, c3, c4, c5, hinv, hdi, by rw [c7]; simp⟩, rfl⟩ (fun _ => rfl)
 have c7 : 0 < m.queue.length := by have g' : ¬ m.queue = [] := by simpa using g
                                    exact List.length_pos_iff.2 g'
 refine bM (ti := aU tab) cI aA rfl rfl rfl rfl rfl ⟨rfl, rfl⟩ (hH 0 rfl) 0 rfl z48 (fun ad => ?_)
 refine aI ⟨_, rfl, ?_, rfl⟩ (fun _ => rfl)
 have hh : ∀ w, m.queue[0]? = some w → w = m.queue[0] := fun w hw => by rw [List.getElem?_eq_getElem c7] at hw; injection hw with hw; exact hw.symm
 constructor
 · intro g
   have g' := of_decide_eq_true g
   exact ⟨c1, c2, c3, c4, c5, hinv, hdi, fun w hw => by rw [hh w hw]; omega⟩
 · intro e
   have := e.hd _ (List.getElem?_eq_getElem c7)
   exact decide_eq_true (by omega)
def l6Words : List ByteArray := [⟨#[]⟩, ⟨#[115, 97, 121]⟩, ⟨#[97, 99, 113, 117, 105, 114, 101]⟩, ⟨#[114, 101, 108, 101, 97, 115, 101]⟩, ⟨#[111, 110, 99, 101]⟩, ⟨#[97, 100, 100]⟩, ⟨#[119, 97, 105, 116]⟩, ⟨#[97, 114, 114, 105, 118, 101]⟩, ⟨#[115, 101, 110, 100]⟩, ⟨#[103, 101, 116]⟩, ⟨#[99, 108, 111, 115, 101]⟩]
def cStr (b : ByteArray) : List Value := [.string b]
theorem oH0 : Enc cStr 1 := ⟨fun _ => rfl, fun _ u hu => by simp [cStr] at hu; subst hu; rfl⟩
def sL (k : Int) : ByteArray := if 1 ≤ k ∧ k ≤ 10 then l6Words.getD k.toNat ⟨#[]⟩ else ⟨#[]⟩
theorem tO (k : Int) : ((sL k).toList == (⟨#[]⟩ : ByteArray).toList) = true ↔ ¬ (1 ≤ k ∧ k ≤ 10) := by
 unfold sL
 by_cases h : 1 ≤ k ∧ k ≤ 10
 · rw [if_pos h]
   have : k = 1 ∨ k = 2 ∨ k = 3 ∨ k = 4 ∨ k = 5 ∨ k = 6 ∨ k = 7 ∨ k = 8 ∨ k = 9 ∨ k = 10 := by omega
   simp only [h, and_self, not_true_eq_false, iff_false]
   rw [← beq_toListBytes]
   rcases this with rfl | rfl | rfl | rfl | rfl | rfl | rfl | rfl | rfl | rfl <;> decide
 · rw [if_neg h]
   simp [h]
theorem jR0 (k : Int) (w : World) : Calls Tryz.prog 189 #[.int .i64 k] w (Ret w fun v L => v = .string (sL k) ∧ L = []) := by
 refine bV Tryz.func189 rfl aA w _ rfl _ rfl [] trivial trivial _ (by decide) ?_
 refine AllSl.mk fun y => ?_
 apply CaseB.mk <;> intro g
 · have q : ¬ (1 ≤ k ∧ k ≤ 10) := by simp at g; omega
   exact aI ⟨by rw [sL, if_neg q], rfl⟩ (fun _ => rfl)
 refine CaseB.mk (fun g2 => ?_) (fun g2 => ?_)
 · have q : ¬ (1 ≤ k ∧ k ≤ 10) := by simp at g2; omega
   exact aI ⟨by rw [sL, if_neg q], rfl⟩ (fun _ => rfl)
 have q : 1 ≤ k ∧ k ≤ 10 := by simp at g g2; omega
 have hlt : k.toNat < l6Words.length := by show k.toNat < 11; omega
 refine aG oH0 (xs := l6Words) aA rfl rfl rfl rfl rfl ⟨rfl, rfl⟩ (bU 0 rfl) k.toNat (by omega) hlt (fun ad => ?_)
 exact aI ⟨by rw [sL, if_pos q]; simp [List.getD, hlt], rfl⟩ (fun _ => rfl)
theorem nP (i : Sl) (xs : List Int) (lo hi : Int) (w : World) (h : At w [slo i aJ 1 xs]) (hb : xs.length ≤ 4294967296) :
   Calls Tryz.prog 158 #[i.val xs.length, .int .i64 lo, .int .i64 hi] w (gZ w (iE xs lo hi)) := by
 refine kD Tryz.func158 rfl aA w _ rfl _ rfl _ h ⟨rfl, rfl, trivial⟩ _ _ _ (by decide) ?_
 refine LoopW.mk ⟨{ k : Nat // k ≤ xs.length ∧ k ≤ 4 ∧ ∀ x ∈ xs.take k, lo ≤ x ∧ x ≤ hi },
   fun k => .mk [(0, .v (i.val xs.length)), (1, .v (.int .i64 lo)), (2, .v (.int .i64 hi)), (7, .v (.int .i64 (k.1 : Int)))] 0 0 [] [] [slo i aJ 1 xs],
   fun k => xs.length - k.1, ⟨0, Nat.zero_le _, by omega, by simp⟩, ?_, ?_⟩
 · exact aC [0] zw2 zw0 zw2 zw5 zw4 rfl rfl
 rintro ⟨k, hk, h4, hinv⟩
 apply CaseB.mk <;> intro g
 · have hlt : k < xs.length := by simpa using g
   apply CaseB.mk <;> intro g
   · have h3 : k ≤ 3 := by simp at g; omega
     refine aG aD aA rfl rfl rfl rfl rfl ⟨rfl, rfl⟩ z40 k rfl z48 (fun ad => ?_)
     apply CaseB.mk <;> intro g
     · have q : xs[k] < lo := by simpa using g
       exact aI ⟨_, rfl, tno fun e => by have := (e.2 _ (List.getElem_mem hlt)).1; omega, rfl⟩ (fun _ => rfl)
     have q1 : ¬ xs[k] < lo := by simpa using g
     refine aG aD aA rfl rfl rfl rfl rfl ⟨rfl, rfl⟩ z40 k rfl z48 (fun ad2 => ?_)
     apply CaseB.mk <;> intro g
     · have q : hi < xs[k] := by simpa using g
       exact aI ⟨_, rfl, tno fun e => by have := (e.2 _ (List.getElem_mem hlt)).2; omega, rfl⟩ (fun _ => rfl)
     have q2 : ¬ hi < xs[k] := by simpa using g
     have hw := bE k _ hlt (by omega)
     refine ⟨⟨k + 1, by omega, by omega, fun x hx => ?_⟩, ?_, by simp; omega⟩
     · rw [List.take_succ_eq_append_getElem hlt] at hx
       rcases List.mem_append.1 hx with hx | hx
       · exact hinv x hx
       · simp at hx; subst hx; omega
     · exact aC [0] zw1 zw0 zw1 zw5 zw3 rfl rfl
   · have h3 : ¬ k ≤ 3 := by simp at g; omega
     have : ¬ xs.length ≤ 3 := by omega
     exact aI ⟨_, rfl, by simp [iE]; omega, rfl⟩ (fun _ => rfl)
 · have hge : xs.length ≤ k := by simpa using g
   rw [List.take_of_length_le hge] at hinv
   refine aI ⟨_, rfl, ?_, rfl⟩ (fun _ => rfl)
   simp only [iE, decide_eq_true_eq]
   exact ⟨fun e => ⟨by omega, hinv⟩, fun e => by have := e.1; omega⟩
theorem eH0 (p : ProgH) (k : Int) (w : World) : Calls Tryz.prog 190 #[dJ p, .int .i64 k] w (Ret w fun v L => v = .int .i64 (p.pure.shared k) ∧ L = []) := by
 have t : p.pure.sems = p.sems ∧ p.pure.groups = p.groups ∧ p.pure.barriers = p.barriers ∧ p.pure.rooms = p.rooms := ⟨rfl, rfl, rfl, rfl⟩
 refine cM Tryz.func190 rfl aA w _ rfl _ rfl [] trivial trivial _ _ (by decide) ?_
 refine CaseB.mk (fun k1 => ?_) (fun k1 => ?_)
 · have q1 : k = 1 := by simpa using k1
   exact aI ⟨by simp [Prog.shared, q1], rfl⟩ (fun _ => rfl)
 have q1 : ¬ k = 1 := by simpa using k1
 refine CaseB.mk (fun k2 => ?_) (fun k2 => ?_)
 · have q2 : k = 2 := by simpa using k2
   refine CaseB.mk (fun _ => ?_) (fun g => by rw [k2] at g; cases g)
   exact aI ⟨by simp [Prog.shared, t, q2], rfl⟩ (fun _ => rfl)
 have q2 : ¬ k = 2 := by simpa using k2
 refine CaseB.mk (fun k3 => ?_) (fun k3 => ?_)
 · have q3 : k = 3 := by simpa using k3
   exact aI ⟨by simp [Prog.shared, t, q3], rfl⟩ (fun _ => rfl)
 have q3 : ¬ k = 3 := by simpa using k3
 refine CaseB.mk (fun k4 => ?_) (fun k4 => ?_)
 · have q4 : k = 4 := by simpa using k4
   exact aI ⟨by simp [Prog.shared, q4], rfl⟩ (fun _ => rfl)
 have q4 : ¬ k = 4 := by simpa using k4
 refine CaseB.mk (fun k5 => ?_) (fun k5 => ?_)
 · have q5 : k = 5 := by simpa using k5
   refine CaseB.mk (fun _ => ?_) (fun g => by rw [k5] at g; cases g)
   exact aI ⟨by simp [Prog.shared, t, q5], rfl⟩ (fun _ => rfl)
 have q5 : ¬ k = 5 := by simpa using k5
 refine CaseB.mk (fun k6 => ?_) (fun k6 => ?_)
 · have q6 : k = 6 := by simpa using k6
   exact aI ⟨by simp [Prog.shared, t, q6], rfl⟩ (fun _ => rfl)
 have q6 : ¬ k = 6 := by simpa using k6
 refine CaseB.mk (fun k7 => ?_) (fun k7 => ?_)
 · have q7 : k = 7 := by simpa using k7
   exact aI ⟨by simp [Prog.shared, t, q7], rfl⟩ (fun _ => rfl)
 have q7 : ¬ k = 7 := by simpa using k7
 exact aI ⟨by simp [Prog.shared, t, q1, q2, q3, q4, q5, q6, q7], rfl⟩ (fun _ => rfl)
theorem mC0 (p : ProgH) (o : Op) (w : World) (h : At w [fR (aV p)]) (h0 : 0 ≤ o.on) (h1 : o.on < p.pure.shared o.kind) :
   Calls Tryz.prog 191 #[dJ p, .agg (cOp o).toArray] w (gZ w (p.pure.argOk o)) := by
 refine cM Tryz.func191 rfl aA w _ rfl _ rfl _ h ⟨rfl, rfl, trivial⟩ _ _ (by decide) ?_
 refine CaseB.mk (fun k2 => ?_) (fun k2 => ?_)
 · refine CaseB.mk (fun _ => ?_) (fun g => by rw [k2] at g; cases g)
   have q : o.kind = 2 := by simpa using k2
   have hs : o.on < (p.sems.length : Int) := by simpa [Prog.shared, q, ProgH.pure] using h1
   have hlt : o.on.toNat < p.sems.length := by omega
   have e : p.pure.sems.getD o.on.toNat 0 = p.sems[o.on.toNat] := by simp [ProgH.pure, List.getD, hlt]
   have hx : p.pure.argOk o ↔ 1 ≤ o.arg ∧ o.arg ≤ p.sems[o.on.toNat] := by rw [← e]; simp [Prog.argOk, q]
   refine aE aA z107 z107 z107 200 [((0, 0), .v (p.h0.val p.sems.length)), ((1, 0), .v (.int .i64 o.kind)), ((1, 1), .v (.int .i64 o.on)), ((1, 2), .v (.int .i64 o.arg))] [0] [_] z129 z145 ⟨rfl, trivial⟩ rfl ?_
   apply CaseB.mk <;> intro g
   · have c : 1 ≤ o.arg := by simp at g; omega
     refine bM (ti := aU tab) aD aA rfl rfl rfl rfl rfl ⟨rfl, rfl⟩ (aL 0 rfl (.ofR (eJ p))) o.on.toNat (by omega) z48 (fun ad => ?_)
     exact aI ⟨_, rfl, by rw [hx]; simp [c], rfl⟩ (fun _ => rfl)
   · have c : ¬ 1 ≤ o.arg := by simp at g; omega
     exact aI ⟨_, rfl, tno fun e => c (hx.1 e).1, rfl⟩ (fun _ => rfl)
 refine CaseB.mk (fun k3 => ?_) (fun k3 => ?_)
 · skip
   have q : o.kind = 3 := by simpa using k3
   have hs : o.on < (p.sems.length : Int) := by simpa [Prog.shared, q, ProgH.pure] using h1
   have hlt : o.on.toNat < p.sems.length := by omega
   have e : p.pure.sems.getD o.on.toNat 0 = p.sems[o.on.toNat] := by simp [ProgH.pure, List.getD, hlt]
   have hx : p.pure.argOk o ↔ 1 ≤ o.arg ∧ o.arg ≤ p.sems[o.on.toNat] := by rw [← e]; simp [Prog.argOk, q]
   refine aE aA z107 z107 z107 200 [((0, 0), .v (p.h0.val p.sems.length)), ((1, 0), .v (.int .i64 o.kind)), ((1, 1), .v (.int .i64 o.on)), ((1, 2), .v (.int .i64 o.arg))] [0] [_] z129 z145 ⟨rfl, trivial⟩ rfl ?_
   apply CaseB.mk <;> intro g
   · have c : 1 ≤ o.arg := by simp at g; omega
     refine bM (ti := aU tab) aD aA rfl rfl rfl rfl rfl ⟨rfl, rfl⟩ (aL 0 rfl (.ofR (eJ p))) o.on.toNat (by omega) z48 (fun ad => ?_)
     exact aI ⟨_, rfl, by rw [hx]; simp [c], rfl⟩ (fun _ => rfl)
   · have c : ¬ 1 ≤ o.arg := by simp at g; omega
     exact aI ⟨_, rfl, tno fun e => c (hx.1 e).1, rfl⟩ (fun _ => rfl)
 have n2 : ¬ o.kind = 2 := by simpa using k2
 have n3 : ¬ o.kind = 3 := by simpa using k3
 refine CaseB.mk (fun k5 => ?_) (fun k5 => ?_)
 · have q : o.kind = 5 := by simpa using k5
   have hx : p.pure.argOk o ↔ -9 ≤ o.arg ∧ o.arg ≤ 9 := by simp [Prog.argOk, q]
   apply CaseB.mk <;> intro g
   · have c : -9 ≤ o.arg := by simp at g; omega
     exact aI ⟨_, rfl, by rw [hx]; simp [c], rfl⟩ (fun _ => rfl)
   · have c : ¬ -9 ≤ o.arg := by simp at g; omega
     exact aI ⟨_, rfl, tno fun e => c (hx.1 e).1, rfl⟩ (fun _ => rfl)
 have n5 : ¬ o.kind = 5 := by simpa using k5
 refine CaseB.mk (fun k1 => ?_) (fun k1 => ?_)
 · have q : o.kind = 1 := by simpa using k1
   have hx : p.pure.argOk o ↔ aW o.arg = true := by simp [Prog.argOk, q]
   refine CaseB.mk (fun _ => ?_) (fun g => by rw [k1] at g; cases g)
   refine aB _ pX rfl rfl rfl rfl ⟨rfl, rfl⟩ (fun A w hW => gE _ w) ?_
   rintro v L ⟨rfl, rfl⟩
   exact aI ⟨_, rfl, by rw [hx], rfl⟩ (fun _ => rfl)
 have n1 : ¬ o.kind = 1 := by simpa using k1
 refine CaseB.mk (fun k4 => ?_) (fun k4 => ?_)
 · have q : o.kind = 4 := by simpa using k4
   have hx : p.pure.argOk o ↔ aW o.arg = true := by simp [Prog.argOk, q]
   refine CaseB.mk (fun _ => ?_) (fun g => by rw [k4] at g; cases g)
   refine aB _ pX rfl rfl rfl rfl ⟨rfl, rfl⟩ (fun A w hW => gE _ w) ?_
   rintro v L ⟨rfl, rfl⟩
   exact aI ⟨_, rfl, by rw [hx], rfl⟩ (fun _ => rfl)
 have n4 : ¬ o.kind = 4 := by simpa using k4
 refine CaseB.mk (fun k8 => ?_) (fun k8 => ?_)
 · have q : o.kind = 8 := by simpa using k8
   have hx : p.pure.argOk o ↔ aW o.arg = true := by simp [Prog.argOk, q]
   refine aB _ pX rfl rfl rfl rfl ⟨rfl, rfl⟩ (fun A w hW => gE _ w) ?_
   rintro v L ⟨rfl, rfl⟩
   exact aI ⟨_, rfl, by rw [hx], rfl⟩ (fun _ => rfl)
 have n8 : ¬ o.kind = 8 := by simpa using k8
 have hx : p.pure.argOk o ↔ o.arg = 0 := by simp [Prog.argOk, n1, n2, n3, n4, n5, n8]
 exact aI ⟨_, rfl, by rw [hx]; simp, rfl⟩ (fun _ => rfl)
theorem jL (p : ProgH) (o : Op) (w : World) (h : At w [fR (aV p)]) :
   Calls Tryz.prog 157 #[dJ p, .agg (cOp o).toArray] w (gZ w (OpOk p.pure o)) := by
 refine cM Tryz.func157 rfl aA w _ rfl _ rfl _ h ⟨rfl, rfl, trivial⟩ _ _ (by decide) ?_
 refine aE aA z107 z107 z107 200 [((0, 0), .v (p.h0.val p.sems.length)), ((0, 1), .v (p.h1.val p.groups.length)), ((0, 2), .v (p.h2.val p.barriers.length)), ((0, 3), .v (p.h3.val p.rooms.length)), ((0, 4), .v (p.h4.val p.threads.length)), ((1, 0), .v (.int .i64 o.kind)), ((1, 1), .v (.int .i64 o.on)), ((1, 2), .v (.int .i64 o.arg))] [0] [_] ⟨⟨_, rfl, rfl, z81⟩, ⟨_, rfl, rfl, z81⟩, ⟨_, rfl, rfl, z81⟩, ⟨_, rfl, rfl, z81⟩, ⟨_, rfl, rfl, z81⟩, ⟨_, rfl, rfl, z81⟩, ⟨_, rfl, rfl, z81⟩, ⟨_, rfl, rfl, z81⟩, trivial⟩ ⟨⟨_, rfl⟩, ⟨_, rfl⟩, ⟨_, rfl⟩, ⟨_, rfl⟩, ⟨_, rfl⟩, ⟨_, rfl⟩, ⟨_, rfl⟩, ⟨_, rfl⟩, trivial⟩ ⟨rfl, trivial⟩ rfl ?_
 refine bL _ jB0 rfl rfl rfl rfl ⟨rfl, rfl⟩ (fun A w hW => jR0 _ w) ?_
 rintro v L ⟨rfl, rfl⟩
 refine mM rfl rfl rfl ⟨rfl, rfl⟩ (.bool ((sL o.kind).toList == (⟨#[]⟩ : ByteArray).toList)) (fun w => (bI w)) (fun w => (fZ0 w)) ?_
 apply CaseB.mk <;> intro g
 · have q := (tO o.kind).1 g
   exact aI ⟨_, rfl, tno fun e => q ⟨e.1, e.2.1⟩, rfl⟩ (fun _ => rfl)
 have q : 1 ≤ o.kind ∧ o.kind ≤ 10 := by
   refine Classical.byContradiction fun n => ?_
   rw [(tO o.kind).2 n] at g
   cases g
 apply CaseB.mk <;> intro g
 · have c : ¬ 0 ≤ o.on := by simp at g; omega
   exact aI ⟨_, rfl, tno fun e => c e.2.2.1, rfl⟩ (fun _ => rfl)
 have c0 : 0 ≤ o.on := by simp at g; omega
 refine bL _ cl190 rfl rfl rfl rfl ⟨rfl, rfl⟩ (fun A w hW => eH0 p _ w) ?_
 rintro v L ⟨rfl, rfl⟩
 apply CaseB.mk <;> intro g
 · have c : ¬ o.on < p.pure.shared o.kind := by simp at g; omega
   exact aI ⟨_, rfl, tno fun e => c e.2.2.2.1, rfl⟩ (fun _ => rfl)
 have c1 : o.on < p.pure.shared o.kind := by simp at g; omega
 refine aB _ cl191 rfl rfl rfl rfl ⟨rfl, rfl⟩ (fun A w hW => mC0 p o w ⟨hW.get 0 rfl (.refl _), trivial⟩ c0 c1) ?_
 rintro v L ⟨b, rfl, hb, rfl⟩
 exact aI ⟨_, rfl, by rw [hb]; simp [OpOk, q, c0, c1], rfl⟩ (fun _ => rfl)
theorem mB (p : ProgH) (w : World) (h : At w [fR (aV p)]) (hs : p.sems.length ≤ 1048576 ∧ p.groups.length ≤ 1048576 ∧ p.barriers.length ≤ 1048576 ∧ p.rooms.length ≤ 1048576) :
   Calls Tryz.prog 106 #[dJ p] w (gZ w (ProgOk p.pure)) := by
 refine bV Tryz.func106 rfl aA w _ rfl _ rfl _ h ⟨rfl, rfl, trivial⟩ _ (by decide) ?_
 refine aB _ fM0 rfl rfl rfl rfl ⟨rfl, rfl⟩ (fun A w hW => nP p.h0 p.sems 1 9 w ⟨hW.get 0 rfl (.ofR (eJ p)), trivial⟩ (by omega)) ?_
 rintro v L ⟨b0, rfl, hb0, rfl⟩
 apply CaseB.mk <;> intro g
 · exact aI ⟨_, rfl, tno fun e => (by have := hb0.2 e.sems; rw [this] at g; cases g), rfl⟩ (fun _ => rfl)
 have w0 := hb0.1 z103
 refine aB _ fM0 rfl rfl rfl rfl ⟨rfl, rfl⟩ (fun A w hW => nP p.h1 p.groups 0 9 w ⟨hW.get 0 rfl (.ofR (iP p)), trivial⟩ (by omega)) ?_
 rintro v L ⟨b1, rfl, hb1, rfl⟩
 apply CaseB.mk <;> intro g
 · exact aI ⟨_, rfl, tno fun e => (by have := hb1.2 e.groups; rw [this] at g; cases g), rfl⟩ (fun _ => rfl)
 have w1 := hb1.1 z103
 refine aB _ fM0 rfl rfl rfl rfl ⟨rfl, rfl⟩ (fun A w hW => nP p.h2 p.barriers 1 6 w ⟨hW.get 0 rfl (.ofR (eF p)), trivial⟩ (by omega)) ?_
 rintro v L ⟨b2, rfl, hb2, rfl⟩
 apply CaseB.mk <;> intro g
 · exact aI ⟨_, rfl, tno fun e => (by have := hb2.2 e.barriers; rw [this] at g; cases g), rfl⟩ (fun _ => rfl)
 have w2 := hb2.1 z103
 refine aB _ fM0 rfl rfl rfl rfl ⟨rfl, rfl⟩ (fun A w hW => nP p.h3 p.rooms 0 4 w ⟨hW.get 0 rfl (.ofR (gK p)), trivial⟩ (by omega)) ?_
 rintro v L ⟨b3, rfl, hb3, rfl⟩
 apply CaseB.mk <;> intro g
 · exact aI ⟨_, rfl, tno fun e => (by have := hb3.2 e.rooms; rw [this] at g; cases g), rfl⟩ (fun _ => rfl)
 have w3 := hb3.1 z103
 have hlen : p.pure.threads.length = p.threads.length := by simp [ProgH.pure]
 apply CaseB.mk <;> intro g
 · have q : ¬ 1 ≤ p.threads.length := by have g' := of_decide_eq_true g; omega
   exact aI ⟨_, rfl, tno fun e => q (hlen ▸ e.n1), rfl⟩ (fun _ => rfl)
 have n1 : 1 ≤ p.threads.length := by have g' := of_decide_eq_false g; omega
 apply CaseB.mk <;> intro g
 · have q : ¬ p.threads.length ≤ 4 := by simp at g; omega
   exact aI ⟨_, rfl, tno fun e => q (hlen ▸ e.n4), rfl⟩ (fun _ => rfl)
 have n4 : p.threads.length ≤ 4 := by simp at g; omega
 have hmem : ∀ (k : Nat) (hk : k < p.threads.length), (p.threads[k]).m ∈ p.pure.threads := fun k hk => List.mem_map_of_mem (List.getElem_mem hk)
 refine LoopW.mk ⟨{ k : Nat // k ≤ p.threads.length ∧ ∀ t ∈ p.pure.threads.take k, t.length ≤ 8 ∧ ∀ o ∈ t, OpOk p.pure o },
   fun k => .mk [(1, .p 0 0), (3, .v (.int .i64 (k.1 : Int)))] 1 0 [(0, 26, 5)] [((0, 0), .v (p.h0.val p.sems.length)), ((0, 1), .v (p.h1.val p.groups.length)), ((0, 2), .v (p.h2.val p.barriers.length)), ((0, 3), .v (p.h3.val p.rooms.length)), ((0, 4), .v (p.h4.val p.threads.length))] [fR (aV p)],
   fun k => p.threads.length - k.1, ⟨0, Nat.zero_le _, by simp⟩, ?_, ?_⟩
 · exact aC [0] zw2 zw0 zw2 zw5 zw4 rfl rfl
 rintro ⟨k, hk, hinv⟩
 apply CaseB.mk <;> intro g
 · have hlt : k < p.threads.length := by simpa using g
   have hget : p.pure.threads[k]'(by rw [hlen]; exact hlt) = (p.threads[k]).m := by simp [ProgH.pure]
   refine LoopW.mk ⟨{ j : Nat // j ≤ (p.threads[k]).m.length ∧ j ≤ 9 ∧ ∀ o ∈ (p.threads[k]).m.take j, OpOk p.pure o },
     fun j => .mk [(1, .p 0 0), (3, .v (.int .i64 (k : Int))), (4, .v (.int .i64 (j.1 : Int)))] 1 0 [(0, 26, 5)] [((0, 0), .v (p.h0.val p.sems.length)), ((0, 1), .v (p.h1.val p.groups.length)), ((0, 2), .v (p.h2.val p.barriers.length)), ((0, 3), .v (p.h3.val p.rooms.length)), ((0, 4), .v (p.h4.val p.threads.length))] [fR (aV p)],
     fun j => (p.threads[k]).m.length - j.1, ⟨0, Nat.zero_le _, by omega, by simp⟩, ?_, ?_⟩
   · exact aC [0] zw2 zw0 zw2 zw5 zw4 rfl rfl
   rintro ⟨j, hj, h9, hinv2⟩
   refine aG dR aA rfl rfl rfl rfl rfl ⟨rfl, rfl⟩ (aL 0 rfl (.trans (.R_R (aY p)) (.ofR bG))) k rfl z48 (fun ad => ?_)
   have hend : ((p.threads[k]).m.length ≤ 8 → (p.threads[k]).m.length ≤ j) → (p.threads[k]).m.length ≤ 8 → ∀ t ∈ p.pure.threads.take (k + 1), t.length ≤ 8 ∧ ∀ o ∈ t, OpOk p.pure o := fun hge2 n8 t ht => by
     rw [List.take_succ_eq_append_getElem (by rw [hlen]; exact hlt)] at ht
     rcases List.mem_append.1 ht with ht | ht
     · exact hinv t ht
     · simp only [List.mem_singleton] at ht
       rw [hget] at ht
       subst ht
       exact ⟨n8, by rw [List.take_of_length_le (hge2 n8)] at hinv2; exact hinv2⟩
   have hw := bE k _ hlt (by omega)
   apply CaseB.mk <;> intro g
   · have hlj : j < (p.threads[k]).m.length := by simpa using g
     apply CaseB.mk <;> intro g
     · have h8 : j ≤ 8 := by simp at g; omega
       refine aE aA z107 z107 z107 200 [((0, 0), .v (p.h0.val p.sems.length)), ((0, 1), .v (p.h1.val p.groups.length)), ((0, 2), .v (p.h2.val p.barriers.length)), ((0, 3), .v (p.h3.val p.rooms.length)), ((0, 4), .v (p.h4.val p.threads.length))] [0] [_] z123 z140 ⟨rfl, trivial⟩ rfl ?_
       refine bM (ti := aU tab) dR aA rfl rfl rfl rfl rfl ⟨rfl, rfl⟩ (aL 0 rfl (.trans (.R_R (aY p)) (.ofR bG))) k rfl z48 (fun ad3 => ?_)
       refine bM (ti := aU tab) oH aA rfl rfl rfl rfl rfl ⟨rfl, rfl⟩ (aL 0 rfl (.trans (.R_R (aY p)) (.ofR (fW _ _ k hlt)))) j rfl z48 (fun ad2 => ?_)
       refine bL _ wT rfl rfl rfl rfl ⟨rfl, rfl⟩ (fun A w hW => jL p _ w ⟨hW.get 0 rfl (.refl _), trivial⟩) ?_
       rintro v L ⟨b, rfl, hb, rfl⟩
       apply CaseB.mk <;> intro g
       · exact aI ⟨_, rfl, tno fun e => z57, rfl⟩ (fun _ => rfl)
       have hw := bE j 9 (by omega) (by omega)
       refine ⟨⟨j + 1, by omega, by omega, fun o ho => ?_⟩, ?_, by simp; omega⟩
       · rw [List.take_succ_eq_append_getElem hlj] at ho
         rcases List.mem_append.1 ho with ho | ho
         · exact hinv2 o ho
         · simp at ho; subst ho; exact hb.1 z103
       · exact aC [0] zw1 zw0 zw1 zw5 zw3 rfl rfl
     · have h8 : ¬ j ≤ 8 := by simp at g; omega
       refine aG dR aA rfl rfl rfl rfl rfl ⟨rfl, rfl⟩ (aL 0 rfl (.trans (.R_R (aY p)) (.ofR bG))) k rfl z48 (fun ad4 => ?_)
       refine CaseB.mk (fun g => ?_) (fun g => by simp at g; omega)
       have q : ¬ (p.threads[k]).m.length ≤ 8 := by omega
       exact aI ⟨_, rfl, tno fun e => q (e.ops _ (hmem k hlt)).1, rfl⟩ (fun _ => rfl)
   have hge2 : (p.threads[k]).m.length ≤ j := by simpa using g
   refine aG dR aA rfl rfl rfl rfl rfl ⟨rfl, rfl⟩ (aL 0 rfl (.trans (.R_R (aY p)) (.ofR bG))) k rfl z48 (fun ad4 => ?_)
   apply CaseB.mk <;> intro g
   · have q : ¬ (p.threads[k]).m.length ≤ 8 := by simp at g; omega
     exact aI ⟨_, rfl, tno fun e => q (e.ops _ (hmem k hlt)).1, rfl⟩ (fun _ => rfl)
   have n8 : (p.threads[k]).m.length ≤ 8 := by simp at g; omega
   refine ⟨⟨k + 1, by omega, hend (fun _ => hge2) n8⟩, ?_, by simp; omega⟩
   exact aC [0] zw1 zw0 zw1 zw5 zw3 rfl rfl
 have hge : p.threads.length ≤ k := by simpa using g
 refine aI ⟨_, rfl, iZ ⟨w0, w1, w2, w3, by rw [hlen]; exact n1, by rw [hlen]; exact n4, fun t ht => ?_⟩, rfl⟩ (fun _ => rfl)
 rw [List.take_of_length_le (by rw [hlen]; exact hge)] at hinv
 exact hinv t ht
structure SharedOk (p : Prog) (s : State) : Prop where
 lsems : s.sems.length = p.sems.length
 lgroups : s.groups.length = p.groups.length
 lbarriers : s.barriers.length = p.barriers.length
 lchans : s.chans.length = p.rooms.length
 lonces : s.onces.length = 3
 sems : ∀ (i : Nat) x, s.sems[i]? = some x → SemOk x ∧ p.sems[i]? = some x.limit
 groups : ∀ x ∈ s.groups, eY x
 barriers : ∀ (i : Nat) x, s.barriers[i]? = some x → dO x ∧ p.barriers[i]? = some x.parties
 chans : ∀ (i : Nat) x, s.chans[i]? = some x → x.valid = true ∧ p.rooms[i]? = some x.room
 onces : ∀ x ∈ s.onces, eG x
theorem Fits.shared {p : Prog} {s : State} (h : Fits p s) : SharedOk p s := ⟨h.lsems, h.lgroups, h.lbarriers, h.lchans, h.lonces, h.sems, h.groups, h.barriers, h.chans, h.onces⟩
theorem jS0 (p : ProgH) (s : StateH) (w : World) (h : At w [fR (aV p), fR (aK s)]) (ok : ProgOk p.pure) (hs : s.pure.small20) :
   Calls Tryz.prog 145 #[dJ p, aM s] w (gZ w (SharedOk p.pure s.pure)) := by
 obtain ⟨b0, b1, b2, b3, b4, b5, b6, b7⟩ := hs
 have mlen : ∀ {α β : Type} (f : α → β) (xs : List α), (xs.map f).length = xs.length := fun f xs => by simp
 have m0 : p.sems.length ≤ 3 := ok.sems.1
 have m1 : p.groups.length ≤ 3 := ok.groups.1
 have m2 : p.barriers.length ≤ 3 := ok.barriers.1
 have m3 : p.rooms.length ≤ 3 := ok.rooms.1
 refine cM Tryz.func145 rfl aA w _ rfl _ rfl _ h ⟨rfl, rfl, rfl, rfl, trivial⟩ _ _ (by decide) ?_
 apply CaseB.mk <;> intro g
 · have q : ¬ s.sems.length = p.sems.length := by simp at g; omega
   exact aI ⟨_, rfl, tno fun e => q (by have := e.lsems; simpa [StateH.pure, ProgH.pure] using this), rfl⟩ (fun _ => rfl)
 have c2 : s.sems.length = p.sems.length := by simp at g; omega
 apply CaseB.mk <;> intro g
 · have q : ¬ s.onces.length = 3 := by simp at g; omega
   exact aI ⟨_, rfl, tno fun e => q (by have := e.lonces; simpa [StateH.pure, ProgH.pure] using this), rfl⟩ (fun _ => rfl)
 have c3 : s.onces.length = 3 := by simp at g; omega
 apply CaseB.mk <;> intro g
 · have q : ¬ s.groups.length = p.groups.length := by simp at g; omega
   exact aI ⟨_, rfl, tno fun e => q (by have := e.lgroups; simpa [StateH.pure, ProgH.pure] using this), rfl⟩ (fun _ => rfl)
 have c4 : s.groups.length = p.groups.length := by simp at g; omega
 apply CaseB.mk <;> intro g
 · have q : ¬ s.barriers.length = p.barriers.length := by simp at g; omega
   exact aI ⟨_, rfl, tno fun e => q (by have := e.lbarriers; simpa [StateH.pure, ProgH.pure] using this), rfl⟩ (fun _ => rfl)
 have c5 : s.barriers.length = p.barriers.length := by simp at g; omega
 apply CaseB.mk <;> intro g
 · have q : ¬ s.chans.length = p.rooms.length := by simp at g; omega
   exact aI ⟨_, rfl, tno fun e => q (by have := e.lchans; simpa [StateH.pure, ProgH.pure] using this), rfl⟩ (fun _ => rfl)
 have c6 : s.chans.length = p.rooms.length := by simp at g; omega
 refine LoopW.mk ⟨{ k : Nat // k ≤ s.sems.length ∧ ∀ (i : Nat) x, i < k → s.pure.sems[i]? = some x → SemOk x ∧ p.pure.sems[i]? = some x.limit },
   fun k => .mk [(2, .p 0 0), (3, .p 1 0), (5, .v (.int .i64 (k.1 : Int)))] 2 0 [(0, 26, 5), (1, 35, 9)] [((0, 0), .v (p.h0.val p.sems.length)), ((0, 1), .v (p.h1.val p.groups.length)), ((0, 2), .v (p.h2.val p.barriers.length)), ((0, 3), .v (p.h3.val p.rooms.length)), ((0, 4), .v (p.h4.val p.threads.length)), ((1, 0), .v (s.h0.val s.places.length)), ((1, 1), .v (s.h1.val s.status.length)), ((1, 2), .v (s.h2.val s.sems.length)), ((1, 3), .v (s.h3.val s.onces.length)), ((1, 4), .v (s.h4.val s.groups.length)), ((1, 5), .v (s.h5.val s.barriers.length)), ((1, 6), .v (s.h6.val s.chans.length)), ((1, 7), .v (s.h7.val s.said.length)), ((1, 8), .v (.int .i64 s.fault))] [fR (aV p), fR (aK s)],
   fun k => s.sems.length - k.1, ⟨0, Nat.zero_le _, fun i x hi => by omega⟩, ?_, ?_⟩
 · exact aC [0, 1] zw2 zw0 zw2 zw5 zw4 rfl rfl
 rintro ⟨k, hk, hinv⟩
 apply CaseB.mk <;> intro g
 · have hlt : k < s.sems.length := by simpa using g
   have hw := bE k _ hlt (by omega)
   have hat : s.pure.sems[k]? = some (s.sems[k]).m := by simp [StateH.pure, hlt]
   have hsm := (cO b2).2 _ (List.getElem_mem hlt)
   unfold Sem.small20 at hsm
   have hlp : k < p.sems.length := by omega
   have hpat : p.pure.sems[k]? = some p.sems[k] := by simp [ProgH.pure, hlp]
   refine aE aA z107 z107 z107 200 [((0, 0), .v (p.h0.val p.sems.length)), ((1, 2), .v (s.h2.val s.sems.length))] [0, 1] [_, _] z142 z152 ⟨rfl, rfl, trivial⟩ rfl ?_
   refine bM (ti := aU tab) dC aA rfl rfl rfl rfl rfl ⟨rfl, rfl⟩ (aL 1 rfl (.trans (.R_R (bW s)) (.ofR bG))) k rfl z48 (fun ad => ?_)
   refine bL _ iX0 rfl rfl rfl rfl ⟨rfl, rfl⟩ (fun A w hW => qE _ _ w ⟨hW.get 1 rfl (.trans (.R_R (bW s)) (.ofR (kH _ _ k hlt))), trivial⟩ (by omega)) ?_
   rintro v L ⟨bb, rfl, hbb, rfl⟩
   apply CaseB.mk <;> intro g
   · exact aI ⟨_, rfl, tno fun e => (by rw [hbb.2 ((e.sems k _ hat).1)] at g; cases g), rfl⟩ (fun _ => rfl)
   have q1 := hbb.1 z103
   refine bM (ti := aU tab) dC aA rfl rfl rfl rfl rfl ⟨rfl, rfl⟩ (aL 1 rfl (.trans (.R_R (bW s)) (.ofR bG))) k rfl z48 (fun ad1 => ?_)
   refine bM (ti := aU tab) aD aA rfl rfl rfl rfl rfl ⟨rfl, rfl⟩ (aL 0 rfl (.ofR (eJ p))) k rfl z48 (fun ad2 => ?_)
   apply CaseB.mk <;> intro g
   · have q : ¬ (s.sems[k]).m.limit = p.sems[k] := by simpa using g
     exact aI ⟨_, rfl, tno fun e => q z59, rfl⟩ (fun _ => rfl)
   have q2 : (s.sems[k]).m.limit = p.sems[k] := by simpa using g
   refine ⟨⟨k + 1, by omega, fun i x hi hx => ?_⟩, ?_, by simp only; omega⟩
   · by_cases e : i < k
     · exact hinv i x e hx
     · obtain rfl : i = k := by omega
       rw [hat] at hx
       injection hx with hx
       subst hx
       exact ⟨q1, by rw [hpat, q2]⟩
   · exact aC [0, 1] zw1 zw0 zw1 zw5 zw3 rfl rfl
 have hge : s.sems.length ≤ k := by simpa using g
 have vsems : ∀ (i : Nat) x, s.pure.sems[i]? = some x → SemOk x ∧ p.pure.sems[i]? = some x.limit := fun i x hx => hinv i x (by have := (List.getElem?_eq_some_iff.1 hx).1; have e : s.pure.sems.length = s.sems.length := mlen _ _; omega) hx
 refine LoopW.mk ⟨{ k : Nat // k ≤ s.onces.length ∧ ∀ (i : Nat) x, i < k → s.pure.onces[i]? = some x → eG x },
   fun k => .mk [(2, .p 0 0), (3, .p 1 0), (6, .v (.int .i64 (k.1 : Int)))] 2 0 [(0, 26, 5), (1, 35, 9)] [((0, 0), .v (p.h0.val p.sems.length)), ((0, 1), .v (p.h1.val p.groups.length)), ((0, 2), .v (p.h2.val p.barriers.length)), ((0, 3), .v (p.h3.val p.rooms.length)), ((0, 4), .v (p.h4.val p.threads.length)), ((1, 0), .v (s.h0.val s.places.length)), ((1, 1), .v (s.h1.val s.status.length)), ((1, 2), .v (s.h2.val s.sems.length)), ((1, 3), .v (s.h3.val s.onces.length)), ((1, 4), .v (s.h4.val s.groups.length)), ((1, 5), .v (s.h5.val s.barriers.length)), ((1, 6), .v (s.h6.val s.chans.length)), ((1, 7), .v (s.h7.val s.said.length)), ((1, 8), .v (.int .i64 s.fault))] [fR (aV p), fR (aK s)],
   fun k => s.onces.length - k.1, ⟨0, Nat.zero_le _, fun i x hi => by omega⟩, ?_, ?_⟩
 · exact aC [0, 1] zw2 zw0 zw2 zw5 zw4 rfl rfl
 rintro ⟨k, hk, hinv⟩
 apply CaseB.mk <;> intro g
 · have hlt : k < s.onces.length := by simpa using g
   have hw := bE k _ hlt (by omega)
   have hat : s.pure.onces[k]? = some (s.onces[k]).m := by simp [StateH.pure, hlt]
   have hsm := (cO b3).2 _ (List.getElem_mem hlt)
   unfold Once.small20 at hsm
   refine aG cX aA rfl rfl rfl rfl rfl ⟨rfl, rfl⟩ (aL 1 rfl (.trans (.R_R (bX s)) (.ofR bG))) k rfl z48 (fun ad => ?_)
   refine aB _ iZ0 rfl rfl rfl rfl ⟨rfl, rfl⟩ (fun A w hW => oY _ _ w ⟨hW.get 1 rfl (.trans (.R_R (bX s)) (.ofR (iW _ _ k hlt))), trivial⟩ (by omega)) ?_
   rintro v L ⟨bb, rfl, hbb, rfl⟩
   apply CaseB.mk <;> intro g
   · exact aI ⟨_, rfl, tno fun e => (by rw [hbb.2 (e.onces _ (List.mem_of_getElem? hat))] at g; cases g), rfl⟩ (fun _ => rfl)
   have q1 := hbb.1 z103
   refine ⟨⟨k + 1, by omega, fun i x hi hx => ?_⟩, ?_, by simp only; omega⟩
   · by_cases e : i < k
     · exact hinv i x e hx
     · obtain rfl : i = k := by omega
       rw [hat] at hx
       injection hx with hx
       subst hx
       exact q1
   · exact aC [0, 1] zw1 zw0 zw1 zw5 zw3 rfl rfl
 have hge : s.onces.length ≤ k := by simpa using g
 have vonces : ∀ (i : Nat) x, s.pure.onces[i]? = some x → eG x := fun i x hx => hinv i x (by have := (List.getElem?_eq_some_iff.1 hx).1; have e : s.pure.onces.length = s.onces.length := mlen _ _; omega) hx
 refine LoopW.mk ⟨{ k : Nat // k ≤ s.groups.length ∧ ∀ (i : Nat) x, i < k → s.pure.groups[i]? = some x → eY x },
   fun k => .mk [(2, .p 0 0), (3, .p 1 0), (7, .v (.int .i64 (k.1 : Int)))] 2 0 [(0, 26, 5), (1, 35, 9)] [((0, 0), .v (p.h0.val p.sems.length)), ((0, 1), .v (p.h1.val p.groups.length)), ((0, 2), .v (p.h2.val p.barriers.length)), ((0, 3), .v (p.h3.val p.rooms.length)), ((0, 4), .v (p.h4.val p.threads.length)), ((1, 0), .v (s.h0.val s.places.length)), ((1, 1), .v (s.h1.val s.status.length)), ((1, 2), .v (s.h2.val s.sems.length)), ((1, 3), .v (s.h3.val s.onces.length)), ((1, 4), .v (s.h4.val s.groups.length)), ((1, 5), .v (s.h5.val s.barriers.length)), ((1, 6), .v (s.h6.val s.chans.length)), ((1, 7), .v (s.h7.val s.said.length)), ((1, 8), .v (.int .i64 s.fault))] [fR (aV p), fR (aK s)],
   fun k => s.groups.length - k.1, ⟨0, Nat.zero_le _, fun i x hi => by omega⟩, ?_, ?_⟩
 · exact aC [0, 1] zw2 zw0 zw2 zw5 zw4 rfl rfl
 rintro ⟨k, hk, hinv⟩
 apply CaseB.mk <;> intro g
 · have hlt : k < s.groups.length := by simpa using g
   have hw := bE k _ hlt (by omega)
   have hat : s.pure.groups[k]? = some (s.groups[k]).m := by simp [StateH.pure, hlt]
   have hsm := (cO b4).2 _ (List.getElem_mem hlt)
   unfold Group.small20 at hsm
   refine aG cJ aA rfl rfl rfl rfl rfl ⟨rfl, rfl⟩ (aL 1 rfl (.trans (.R_R (bO s)) (.ofR bG))) k rfl z48 (fun ad => ?_)
   refine aB _ iY0 rfl rfl rfl rfl ⟨rfl, rfl⟩ (fun A w hW => oA _ _ w ⟨hW.get 1 rfl (.trans (.R_R (bO s)) (.ofR (fG _ _ k hlt))), trivial⟩ (by omega)) ?_
   rintro v L ⟨bb, rfl, hbb, rfl⟩
   apply CaseB.mk <;> intro g
   · exact aI ⟨_, rfl, tno fun e => (by rw [hbb.2 (e.groups _ (List.mem_of_getElem? hat))] at g; cases g), rfl⟩ (fun _ => rfl)
   have q1 := hbb.1 z103
   refine ⟨⟨k + 1, by omega, fun i x hi hx => ?_⟩, ?_, by simp only; omega⟩
   · by_cases e : i < k
     · exact hinv i x e hx
     · obtain rfl : i = k := by omega
       rw [hat] at hx
       injection hx with hx
       subst hx
       exact q1
   · exact aC [0, 1] zw1 zw0 zw1 zw5 zw3 rfl rfl
 have hge : s.groups.length ≤ k := by simpa using g
 have vgroups : ∀ (i : Nat) x, s.pure.groups[i]? = some x → eY x := fun i x hx => hinv i x (by have := (List.getElem?_eq_some_iff.1 hx).1; have e : s.pure.groups.length = s.groups.length := mlen _ _; omega) hx
 refine LoopW.mk ⟨{ k : Nat // k ≤ s.barriers.length ∧ ∀ (i : Nat) x, i < k → s.pure.barriers[i]? = some x → dO x ∧ p.pure.barriers[i]? = some x.parties },
   fun k => .mk [(2, .p 0 0), (3, .p 1 0), (8, .v (.int .i64 (k.1 : Int)))] 2 0 [(0, 26, 5), (1, 35, 9)] [((0, 0), .v (p.h0.val p.sems.length)), ((0, 1), .v (p.h1.val p.groups.length)), ((0, 2), .v (p.h2.val p.barriers.length)), ((0, 3), .v (p.h3.val p.rooms.length)), ((0, 4), .v (p.h4.val p.threads.length)), ((1, 0), .v (s.h0.val s.places.length)), ((1, 1), .v (s.h1.val s.status.length)), ((1, 2), .v (s.h2.val s.sems.length)), ((1, 3), .v (s.h3.val s.onces.length)), ((1, 4), .v (s.h4.val s.groups.length)), ((1, 5), .v (s.h5.val s.barriers.length)), ((1, 6), .v (s.h6.val s.chans.length)), ((1, 7), .v (s.h7.val s.said.length)), ((1, 8), .v (.int .i64 s.fault))] [fR (aV p), fR (aK s)],
   fun k => s.barriers.length - k.1, ⟨0, Nat.zero_le _, fun i x hi => by omega⟩, ?_, ?_⟩
 · exact aC [0, 1] zw2 zw0 zw2 zw5 zw4 rfl rfl
 rintro ⟨k, hk, hinv⟩
 apply CaseB.mk <;> intro g
 · have hlt : k < s.barriers.length := by simpa using g
   have hw := bE k _ hlt (by omega)
   have hat : s.pure.barriers[k]? = some (s.barriers[k]).m := by simp [StateH.pure, hlt]
   have hsm := (cO b5).2 _ (List.getElem_mem hlt)
   unfold Barrier.small20 at hsm
   have hlp : k < p.barriers.length := by omega
   have hpat : p.pure.barriers[k]? = some p.barriers[k] := by simp [ProgH.pure, hlp]
   refine aE aA z107 z107 z107 200 [((0, 2), .v (p.h2.val p.barriers.length)), ((1, 5), .v (s.h5.val s.barriers.length))] [0, 1] [_, _] z142 z152 ⟨rfl, rfl, trivial⟩ rfl ?_
   refine bM (ti := aU tab) cC aA rfl rfl rfl rfl rfl ⟨rfl, rfl⟩ (aL 1 rfl (.trans (.R_R (bK s)) (.ofR bG))) k rfl z48 (fun ad => ?_)
   refine bL _ nC0 rfl rfl rfl rfl ⟨rfl, rfl⟩ (fun A w hW => pJ _ _ w ⟨hW.get 1 rfl (.trans (.R_R (bK s)) (.ofR (eE _ _ k hlt))), trivial⟩ (by omega)) ?_
   rintro v L ⟨bb, rfl, hbb, rfl⟩
   apply CaseB.mk <;> intro g
   · exact aI ⟨_, rfl, tno fun e => (by rw [hbb.2 ((e.barriers k _ hat).1)] at g; cases g), rfl⟩ (fun _ => rfl)
   have q1 := hbb.1 z103
   refine bM (ti := aU tab) cC aA rfl rfl rfl rfl rfl ⟨rfl, rfl⟩ (aL 1 rfl (.trans (.R_R (bK s)) (.ofR bG))) k rfl z48 (fun ad1 => ?_)
   refine bM (ti := aU tab) aD aA rfl rfl rfl rfl rfl ⟨rfl, rfl⟩ (aL 0 rfl (.ofR (eF p))) k rfl z48 (fun ad2 => ?_)
   apply CaseB.mk <;> intro g
   · have q : ¬ (s.barriers[k]).m.parties = p.barriers[k] := by simpa using g
     exact aI ⟨_, rfl, tno fun e => q z56, rfl⟩ (fun _ => rfl)
   have q2 : (s.barriers[k]).m.parties = p.barriers[k] := by simpa using g
   refine ⟨⟨k + 1, by omega, fun i x hi hx => ?_⟩, ?_, by simp only; omega⟩
   · by_cases e : i < k
     · exact hinv i x e hx
     · obtain rfl : i = k := by omega
       rw [hat] at hx
       injection hx with hx
       subst hx
       exact ⟨q1, by rw [hpat, q2]⟩
   · exact aC [0, 1] zw1 zw0 zw1 zw5 zw3 rfl rfl
 have hge : s.barriers.length ≤ k := by simpa using g
 have vbarriers : ∀ (i : Nat) x, s.pure.barriers[i]? = some x → dO x ∧ p.pure.barriers[i]? = some x.parties := fun i x hx => hinv i x (by have := (List.getElem?_eq_some_iff.1 hx).1; have e : s.pure.barriers.length = s.barriers.length := mlen _ _; omega) hx
 refine LoopW.mk ⟨{ k : Nat // k ≤ s.chans.length ∧ ∀ (i : Nat) x, i < k → s.pure.chans[i]? = some x → x.valid = true ∧ p.pure.rooms[i]? = some x.room },
   fun k => .mk [(2, .p 0 0), (3, .p 1 0), (9, .v (.int .i64 (k.1 : Int)))] 2 0 [(0, 26, 5), (1, 35, 9)] [((0, 0), .v (p.h0.val p.sems.length)), ((0, 1), .v (p.h1.val p.groups.length)), ((0, 2), .v (p.h2.val p.barriers.length)), ((0, 3), .v (p.h3.val p.rooms.length)), ((0, 4), .v (p.h4.val p.threads.length)), ((1, 0), .v (s.h0.val s.places.length)), ((1, 1), .v (s.h1.val s.status.length)), ((1, 2), .v (s.h2.val s.sems.length)), ((1, 3), .v (s.h3.val s.onces.length)), ((1, 4), .v (s.h4.val s.groups.length)), ((1, 5), .v (s.h5.val s.barriers.length)), ((1, 6), .v (s.h6.val s.chans.length)), ((1, 7), .v (s.h7.val s.said.length)), ((1, 8), .v (.int .i64 s.fault))] [fR (aV p), fR (aK s)],
   fun k => s.chans.length - k.1, ⟨0, Nat.zero_le _, fun i x hi => by omega⟩, ?_, ?_⟩
 · exact aC [0, 1] zw2 zw0 zw2 zw5 zw4 rfl rfl
 rintro ⟨k, hk, hinv⟩
 apply CaseB.mk <;> intro g
 · have hlt : k < s.chans.length := by simpa using g
   have hw := bE k _ hlt (by omega)
   have hat : s.pure.chans[k]? = some (s.chans[k]).m := by simp [StateH.pure, hlt]
   have hsm := (cO b6).2 _ (List.getElem_mem hlt)
   unfold Chan.small20 at hsm
   have hlp : k < p.rooms.length := by omega
   have hpat : p.pure.rooms[k]? = some p.rooms[k] := by simp [ProgH.pure, hlp]
   refine aE aA z107 z107 z107 200 [((0, 3), .v (p.h3.val p.rooms.length)), ((1, 6), .v (s.h6.val s.chans.length))] [0, 1] [_, _] z142 z152 ⟨rfl, rfl, trivial⟩ rfl ?_
   refine bM (ti := aU tab) cN aA rfl rfl rfl rfl rfl ⟨rfl, rfl⟩ (aL 1 rfl (.trans (.R_R (aQ s)) (.ofR bG))) k rfl z48 (fun ad => ?_)
   refine bL _ fO0 rfl rfl rfl rfl ⟨rfl, rfl⟩ (fun A w hW => tN _ _ _ _ w ⟨hW.get 1 rfl (.trans (.R_R (aQ s)) (.ofR (mU _ _ k hlt))), hW.get 1 rfl (.trans (.R_R (aQ s)) (.ofR (iC _ _ k hlt))), hW.get 1 rfl (.trans (.R_R (aQ s)) (.ofR (iX _ _ k hlt))), trivial⟩ ⟨by omega, by omega, by omega⟩) ?_
   rintro v L ⟨rfl, rfl⟩
   apply CaseB.mk <;> intro g
   · exact aI ⟨_, rfl, tno fun e => (by rw [(e.chans k _ hat).1] at g; cases g), rfl⟩ (fun _ => rfl)
   have q1 : (s.chans[k]).m.valid = true := by simpa using g
   refine bM (ti := aU tab) cN aA rfl rfl rfl rfl rfl ⟨rfl, rfl⟩ (aL 1 rfl (.trans (.R_R (aQ s)) (.ofR bG))) k rfl z48 (fun ad1 => ?_)
   refine bM (ti := aU tab) aD aA rfl rfl rfl rfl rfl ⟨rfl, rfl⟩ (aL 0 rfl (.ofR (gK p))) k rfl z48 (fun ad2 => ?_)
   apply CaseB.mk <;> intro g
   · have q : ¬ (s.chans[k]).m.room = p.rooms[k] := by simpa using g
     exact aI ⟨_, rfl, tno fun e => q z58, rfl⟩ (fun _ => rfl)
   have q2 : (s.chans[k]).m.room = p.rooms[k] := by simpa using g
   refine ⟨⟨k + 1, by omega, fun i x hi hx => ?_⟩, ?_, by simp only; omega⟩
   · by_cases e : i < k
     · exact hinv i x e hx
     · obtain rfl : i = k := by omega
       rw [hat] at hx
       injection hx with hx
       subst hx
       exact ⟨q1, by rw [hpat, q2]⟩
   · exact aC [0, 1] zw1 zw0 zw1 zw5 zw3 rfl rfl
 have hge : s.chans.length ≤ k := by simpa using g
 have vchans : ∀ (i : Nat) x, s.pure.chans[i]? = some x → x.valid = true ∧ p.pure.rooms[i]? = some x.room := fun i x hx => hinv i x (by have := (List.getElem?_eq_some_iff.1 hx).1; have e : s.pure.chans.length = s.chans.length := mlen _ _; omega) hx
 have mm : ∀ {α : Type} {xs : List α} {q : α → Prop}, (∀ (i : Nat) x, xs[i]? = some x → q x) → ∀ x ∈ xs, q x := fun h x hx => by
   obtain ⟨i, hi⟩ := List.getElem?_of_mem hx
   exact h i x hi
 have n := fun {α β γ δ : Type} (f : α → β) (g : γ → δ) {xs : List α} {ys : List γ} (e : xs.length = ys.length) => (show (xs.map f).length = (ys.map g).length by simp [e])
 exact aI ⟨_, rfl, iZ ⟨by simpa [StateH.pure, ProgH.pure] using c2, by simpa [StateH.pure, ProgH.pure] using c4, by simpa [StateH.pure, ProgH.pure] using c5, by simpa [StateH.pure, ProgH.pure] using c6, by simpa [StateH.pure, ProgH.pure] using c3, vsems, mm vgroups, vbarriers, vchans, mm vonces⟩, rfl⟩ (fun _ => rfl)
theorem wI (xs : List Int) (t : Int) (h : 0 ≤ atM xs t) : xs[(atM xs t).toNat]? = some t := by
 induction xs with
 | nil => simp [atM] at h
 | cons x r ih =>
   simp only [atM] at h ⊢
   by_cases e : x = t
   · simp [e]
   · simp only [e, if_false] at h ⊢
     by_cases e2 : atM r t < 0
     · rw [if_pos e2] at h; omega
     · rw [if_neg e2] at h ⊢
       have e3 : (atM r t + 1).toNat = (atM r t).toNat + 1 := by omega
       rw [e3, List.getElem?_cons_succ]
       exact ih (by omega)
theorem nL0 {α : Type} {f : α → Int} {l : List α} {t a : Int} (hd : (l.map f).Nodup) (ha : a = atM (l.map f) t) (x : α) : (x ∈ l ∧ f x = t) ↔ (l[a.toNat]? = some x ∧ 0 ≤ a) := by
 subst ha
 constructor
 · rintro ⟨hm, hx⟩
   have h0 : 0 ≤ atM (l.map f) t := (eM _ _).2 (hx ▸ List.mem_map_of_mem hm)
   have h1 := wI _ _ h0
   obtain ⟨i, hi, rfl⟩ := List.getElem_of_mem hm
   have h2 : (l.map f)[i]? = some t := by simp [hi, hx]
   have h3 := (List.getElem?_eq_some_iff.1 h1).1
   have := (List.getElem?_inj h3 hd).1 (h1.trans h2.symm)
   rw [this]
   exact ⟨List.getElem?_eq_getElem hi, h0⟩
 · rintro ⟨h1, h0⟩
   refine ⟨List.mem_of_getElem? h1, ?_⟩
   have h2 := wI _ _ h0
   rw [List.getElem?_map, h1] at h2
   simpa using h2
theorem cP0 (i : Sl) (xs : List Waiter) (t : Int) (w : World) (h : At w [slo i cG 2 xs]) (hb : xs.length ≤ 1048576) :
   Calls Tryz.prog 171 #[i.val xs.length, .int .i64 t] w (Ret w fun v L => ∃ a : Int, v = .int .i64 a ∧ a = atM (xs.map (·.t)) t ∧ L = []) := by
 refine cM Tryz.func171 rfl aA w _ rfl _ rfl _ h ⟨rfl, rfl, trivial⟩ _ _ (by decide) ?_
 have hlen : (xs.map (·.t)).length = xs.length := by simp
 refine LoopW.mk ⟨{ k : Nat // k ≤ xs.length ∧ t ∉ (xs.map (·.t)).take k },
   fun p => .mk [(0, .v (i.val xs.length)), (1, .v (.int .i64 t)), (5, .v (.int .i64 p.1))] 0 0 [] [] [slo i cG 2 xs],
   fun p => xs.length - p.1, ⟨0, Nat.zero_le _, by simp⟩, ?_, ?_⟩
 · exact aC [0] zw2 zw0 zw2 zw5 zw4 rfl rfl
 · rintro ⟨k, hk, he⟩
   refine CaseB.mk (fun h => ?_) (fun h => ?_)
   · have hlt : k < xs.length := by simpa using h
     have hlt2 : k < (xs.map (·.t)).length := by rw [hlen]; exact hlt
     refine aG cI aA rfl rfl rfl rfl rfl ⟨rfl, rfl⟩ z40 k rfl z48 (fun ad => ?_)
     refine CaseB.mk (fun h => ?_) (fun h => ?_)
     · have heq : (xs[k]).t = t := by simpa using h
       exact aI ⟨_, rfl, (aR0 hlt2 he (by simpa using heq)).symm, rfl⟩ (fun _ => rfl)
     · have hne : (xs[k]).t ≠ t := by simpa using h
       have hw := nI k _ hlt (by omega)
       refine ⟨⟨k + 1, by omega, gX hlt2 he (by simpa using hne)⟩, ?_, by simp; omega⟩
       exact aC [0] zw1 zw0 zw1 zw5 zw3 rfl rfl
   · have hge : xs.length ≤ k := by simpa using h
     rw [List.take_of_length_le (by omega)] at he
     exact aI ⟨_, rfl, (tE he).symm, rfl⟩ (fun _ => rfl)
def eZ (s : State) (o : Op) (t : Int) : Prop :=
 if o.kind = 2 then ∃ x, s.sems[o.on.toNat]? = some x ∧ ⟨t, o.arg⟩ ∈ x.queue
 else if o.kind = 4 then ∃ x, s.onces[o.on.toNat]? = some x ∧ t ∈ x.waits
 else if o.kind = 6 then ∃ x, s.groups[o.on.toNat]? = some x ∧ t ∈ x.waits
 else if o.kind = 7 then ∃ x, s.barriers[o.on.toNat]? = some x ∧ t ∈ x.waits
 else if o.kind = 8 then ∃ x, s.chans[o.on.toNat]? = some x ∧ ⟨t, o.arg⟩ ∈ x.senders
 else if o.kind = 9 then ∃ x, s.chans[o.on.toNat]? = some x ∧ t ∈ x.getters
 else False
theorem only {α : Type} {xs : List α} {n : Nat} {y : α} (h : xs[n]? = some y) {q : α → Prop} : (∃ x, xs[n]? = some x ∧ q x) ↔ q y :=
 ⟨fun ⟨x, hx, hq⟩ => by rw [h] at hx; injection hx with hx; exact hx ▸ hq, fun hq => ⟨y, h, hq⟩⟩
theorem mD0 (p : Prog) (s : StateH) (o : Op) (t : Int) (w : World) (h : At w [fR (aK s)]) (hs : SharedOk p s.pure) (ho : OpOk p o) :
   Calls Tryz.prog 183 #[aM s, .agg (cOp o).toArray, .int .i64 t] w (gZ w (eZ s.pure o t)) := by
 obtain ⟨s1, s2, s3, s4, s5, s6, s7, s8, s9, s10⟩ := hs
 have mlen : ∀ {α β : Type} (f : α → β) (xs : List α), (xs.map f).length = xs.length := fun f xs => by simp
 have l2 : s.pure.sems.length = s.sems.length := mlen _ _
 have l3 : s.pure.onces.length = s.onces.length := mlen _ _
 have l4 : s.pure.groups.length = s.groups.length := mlen _ _
 have l5 : s.pure.barriers.length = s.barriers.length := mlen _ _
 have l6 : s.pure.chans.length = s.chans.length := mlen _ _
 refine kD Tryz.func183 rfl aA w _ rfl _ rfl _ h ⟨rfl, rfl, trivial⟩ _ _ _ (by decide) ?_
 refine CaseB.mk (fun g => ?_) (fun g2 => ?_)
 · have k2 : o.kind = 2 := by simpa using g
   obtain ⟨⟨o0, o1⟩, _⟩ := (jN0 (.inl k2)).1 ho
   have hlt : o.on.toNat < s.sems.length := by omega
   have hat : s.pure.sems[o.on.toNat]? = some (s.sems[o.on.toNat]).m := by simp [StateH.pure, hlt]
   have hok := (s6 _ _ hat).1
   have hq := hok.q6
   refine aG dC aA rfl rfl rfl rfl rfl ⟨rfl, rfl⟩ (aL 0 rfl (.trans (.R_R (bW s)) (.ofR bG))) o.on.toNat (by omega) z48 (fun ad => ?_)
   refine aB _ nB0 rfl rfl rfl rfl ⟨rfl, rfl⟩ (fun A w hW => cP0 _ _ t w ⟨hW.get 0 rfl (.trans (.R_R (bW s)) (.ofR (kH _ _ _ hlt))), trivial⟩ (by omega)) ?_
   rintro v L ⟨a, rfl, ha, rfl⟩
   have hin := nL0 (f := (·.t)) (by have := hok.dis; simp only [bD, decide_eq_true_eq] at this; exact this.1) ha (⟨t, o.arg⟩ : Waiter)
   have hQ : eZ s.pure o t ↔ ((s.sems[o.on.toNat]).m.queue[a.toNat]? = some ⟨t, o.arg⟩ ∧ 0 ≤ a) := by
     rw [← hin, eZ, if_pos k2, only hat]; simp
   refine aE aA z107 z107 z107 200 [((0, 2), .v (s.h2.val s.sems.length)), ((1, 1), .v (.int .i64 o.on)), ((1, 2), .v (.int .i64 o.arg))] [0] [_] z136 z148 ⟨rfl, trivial⟩ rfl ?_
   apply CaseB.mk <;> intro g
   · have a0 : 0 ≤ a := by simpa using g
     have hg := wI _ t (ha ▸ a0)
     rw [← ha, List.getElem?_map] at hg
     have hl : a.toNat < (s.sems[o.on.toNat]).m.queue.length := by
       refine Classical.byContradiction fun n => ?_
       rw [List.getElem?_eq_none (by omega)] at hg; simp at hg
     rw [List.getElem?_eq_getElem hl] at hg
     have ht : ((s.sems[o.on.toNat]).m.queue[a.toNat]).t = t := by simpa using hg
     refine bM (ti := aU tab) dC aA rfl rfl rfl rfl rfl ⟨rfl, rfl⟩ (aL 0 rfl (.trans (.R_R (bW s)) (.ofR bG))) o.on.toNat (by omega) z48 (fun ad1 => ?_)
     refine bM (ti := aU tab) cI aA rfl rfl rfl rfl rfl ⟨rfl, rfl⟩ (aL 0 rfl (.trans (.R_R (bW s)) (.ofR (kH _ _ _ hlt)))) a.toNat (by omega) z48 (fun ad2 => ?_)
     refine aI ⟨_, rfl, ?_, rfl⟩ (fun _ => rfl)
     rw [hQ, List.getElem?_eq_getElem hl, beq_iff_eq]
     constructor
     · intro e
       refine ⟨?_, a0⟩
       rw [← ht, ← e]
     · rintro ⟨e, _⟩
       injection e with e
       rw [e]
   · have a0 : ¬ 0 ≤ a := by simpa using g
     exact aI ⟨_, rfl, tno fun e => a0 (hQ.1 e).2, rfl⟩ (fun _ => rfl)
 have n2 : ¬ o.kind = 2 := by simpa using g2
 refine CaseB.mk (fun g => ?_) (fun g4 => ?_)
 · have k4 : o.kind = 4 := by simpa using g
   obtain ⟨o0, o1, _⟩ := (jO0 k4).1 ho
   have hlt : o.on.toNat < s.onces.length := by omega
   have hat : s.pure.onces[o.on.toNat]? = some (s.onces[o.on.toNat]).m := by simp [StateH.pure, hlt]
   have hq := eV (s10 _ (List.mem_of_getElem? hat))
   have hQ : eZ s.pure o t ↔ t ∈ (s.onces[o.on.toNat]).m.waits := by
     simp only [eZ, k4]
     exact only hat
   refine aG cX aA rfl rfl rfl rfl rfl ⟨rfl, rfl⟩ (aL 0 rfl (.trans (.R_R (bX s)) (.ofR bG))) o.on.toNat (by omega) z48 (fun ad => ?_)
   refine aB _ uN rfl rfl rfl rfl ⟨rfl, rfl⟩ (fun A w hW => kR _ _ t w ⟨hW.get 0 rfl (.trans (.R_R (bX s)) (.ofR (iW _ _ _ hlt))), trivial⟩ (by omega)) ?_
   rintro v L ⟨rfl, rfl⟩
   exact aI ⟨_, rfl, by rw [hQ, decide_eq_true_eq]; exact eM _ _, rfl⟩ (fun _ => rfl)
 have n4 : ¬ o.kind = 4 := by simpa using g4
 refine CaseB.mk (fun g => ?_) (fun g6 => ?_)
 · have k6 : o.kind = 6 := by simpa using g
   obtain ⟨⟨o0, o1⟩, _⟩ := (nI0 k6).1 ho
   have hlt : o.on.toNat < s.groups.length := by omega
   have hat : s.pure.groups[o.on.toNat]? = some (s.groups[o.on.toNat]).m := by simp [StateH.pure, hlt]
   have hq := fM (s7 _ (List.mem_of_getElem? hat))
   have hQ : eZ s.pure o t ↔ t ∈ (s.groups[o.on.toNat]).m.waits := by
     simp only [eZ, k6]
     exact only hat
   refine aG cJ aA rfl rfl rfl rfl rfl ⟨rfl, rfl⟩ (aL 0 rfl (.trans (.R_R (bO s)) (.ofR bG))) o.on.toNat (by omega) z48 (fun ad => ?_)
   refine aB _ uN rfl rfl rfl rfl ⟨rfl, rfl⟩ (fun A w hW => kR _ _ t w ⟨hW.get 0 rfl (.trans (.R_R (bO s)) (.ofR (fG _ _ _ hlt))), trivial⟩ (by omega)) ?_
   rintro v L ⟨rfl, rfl⟩
   exact aI ⟨_, rfl, by rw [hQ, decide_eq_true_eq]; exact eM _ _, rfl⟩ (fun _ => rfl)
 have n6 : ¬ o.kind = 6 := by simpa using g6
 refine CaseB.mk (fun g => ?_) (fun g7 => ?_)
 · have k7 : o.kind = 7 := by simpa using g
   obtain ⟨⟨o0, o1⟩, _⟩ := (nJ0 k7).1 ho
   have hlt : o.on.toNat < s.barriers.length := by omega
   have hat : s.pure.barriers[o.on.toNat]? = some (s.barriers[o.on.toNat]).m := by simp [StateH.pure, hlt]
   have hq := fY (s8 _ _ hat).1
   have hQ : eZ s.pure o t ↔ t ∈ (s.barriers[o.on.toNat]).m.waits := by
     simp only [eZ, k7]
     exact only hat
   refine aG cC aA rfl rfl rfl rfl rfl ⟨rfl, rfl⟩ (aL 0 rfl (.trans (.R_R (bK s)) (.ofR bG))) o.on.toNat (by omega) z48 (fun ad => ?_)
   refine aB _ uN rfl rfl rfl rfl ⟨rfl, rfl⟩ (fun A w hW => kR _ _ t w ⟨hW.get 0 rfl (.trans (.R_R (bK s)) (.ofR (eE _ _ _ hlt))), trivial⟩ (by omega)) ?_
   rintro v L ⟨rfl, rfl⟩
   exact aI ⟨_, rfl, by rw [hQ, decide_eq_true_eq]; exact eM _ _, rfl⟩ (fun _ => rfl)
 have n7 : ¬ o.kind = 7 := by simpa using g7
 refine CaseB.mk (fun g => ?_) (fun g8 => ?_)
 · have k8 : o.kind = 8 := by simpa using g
   obtain ⟨⟨o0, o1⟩, _⟩ := (nK0 k8).1 ho
   have hlt : o.on.toNat < s.chans.length := by omega
   have hat : s.pure.chans[o.on.toNat]? = some (s.chans[o.on.toNat]).m := by simp [StateH.pure, hlt]
   have hok := (s9 _ _ hat).1
   have hq := mV hok
   have hdi : ((s.chans[o.on.toNat]).m.senders.map (·.t)).Nodup := by
     have hv : (s.chans[o.on.toNat]).m.Valid := by simpa [Chan.valid] using hok
     have hd := hv.di
     unfold bD at hd
     have hd2 := of_decide_eq_true hd
     exact (List.nodup_append.1 hd2.1).1
   refine aG cN aA rfl rfl rfl rfl rfl ⟨rfl, rfl⟩ (aL 0 rfl (.trans (.R_R (aQ s)) (.ofR bG))) o.on.toNat (by omega) z48 (fun ad => ?_)
   refine aB _ fP0 rfl rfl rfl rfl ⟨rfl, rfl⟩ (fun A w hW => nK _ _ w ⟨hW.get 0 rfl (.trans (.R_R (aQ s)) (.ofR (iC _ _ _ hlt))), trivial⟩ (by omega)) ?_
   rw [List.take_of_length_le (by omega)]
   rintro v L ⟨y, rfl, rfl⟩
   refine aB _ uN rfl rfl rfl rfl ⟨rfl, rfl⟩ (fun A w hW => kR y _ t w ⟨hW.get 0 rfl .own, trivial⟩ z106) ?_
   rintro v L ⟨rfl, rfl⟩
   obtain ⟨a, ha⟩ : ∃ a, a = atM ((s.chans[o.on.toNat]).m.senders.map Letter.t) t := ⟨_, rfl⟩
   rw [← ha]
   have hin := nL0 (f := Letter.t) hdi ha (⟨t, o.arg⟩ : Letter)
   have hQ : eZ s.pure o t ↔ ((s.chans[o.on.toNat]).m.senders[a.toNat]? = some ⟨t, o.arg⟩ ∧ 0 ≤ a) := by
     rw [← hin]
     simp only [eZ, k8]
     exact (only hat).trans (by simp)
   refine aE aA z107 z107 z107 200 [((0, 6), .v (s.h6.val s.chans.length)), ((1, 1), .v (.int .i64 o.on)), ((1, 2), .v (.int .i64 o.arg))] [1] [_] z136 z148 ⟨rfl, trivial⟩ rfl ?_
   apply CaseB.mk <;> intro g
   · have a0 : 0 ≤ a := by simpa using g
     have hg := wI _ t (ha ▸ a0)
     rw [← ha, List.getElem?_map] at hg
     have hl : a.toNat < (s.chans[o.on.toNat]).m.senders.length := by
       refine Classical.byContradiction fun n => ?_
       rw [List.getElem?_eq_none (by omega)] at hg; simp at hg
     rw [List.getElem?_eq_getElem hl] at hg
     have ht : ((s.chans[o.on.toNat]).m.senders[a.toNat]).t = t := by simpa using hg
     refine bM (ti := aU tab) cN aA rfl rfl rfl rfl rfl ⟨rfl, rfl⟩ (aL 0 rfl (.trans (.R_R (aQ s)) (.ofR bG))) o.on.toNat (by omega) z48 (fun ad1 => ?_)
     refine bM (ti := aU tab) hU aA rfl rfl rfl rfl rfl ⟨rfl, rfl⟩ (aL 0 rfl (.trans (.R_R (aQ s)) (.ofR (iC _ _ _ hlt)))) a.toNat (by omega) z48 (fun ad2 => ?_)
     refine aI ⟨_, rfl, ?_, rfl⟩ (fun _ => rfl)
     rw [hQ, List.getElem?_eq_getElem hl, beq_iff_eq]
     constructor
     · intro e
       refine ⟨?_, a0⟩
       rw [← ht, ← e]
     · rintro ⟨e, _⟩
       injection e with e
       rw [e]
   · have a0 : ¬ 0 ≤ a := by simpa using g
     exact aI ⟨_, rfl, tno fun e => a0 (hQ.1 e).2, rfl⟩ (fun _ => rfl)
 have n8 : ¬ o.kind = 8 := by simpa using g8
 refine CaseB.mk (fun g => ?_) (fun g9 => ?_)
 · have k9 : o.kind = 9 := by simpa using g
   obtain ⟨⟨o0, o1⟩, _⟩ := (jP0 (.inl k9)).1 ho
   have hlt : o.on.toNat < s.chans.length := by omega
   have hat : s.pure.chans[o.on.toNat]? = some (s.chans[o.on.toNat]).m := by simp [StateH.pure, hlt]
   have hq := mV (s9 _ _ hat).1
   have hQ : eZ s.pure o t ↔ t ∈ (s.chans[o.on.toNat]).m.getters := by
     simp only [eZ, k9]
     exact only hat
   refine aG cN aA rfl rfl rfl rfl rfl ⟨rfl, rfl⟩ (aL 0 rfl (.trans (.R_R (aQ s)) (.ofR bG))) o.on.toNat (by omega) z48 (fun ad => ?_)
   refine aB _ uN rfl rfl rfl rfl ⟨rfl, rfl⟩ (fun A w hW => kR _ _ t w ⟨hW.get 0 rfl (.trans (.R_R (aQ s)) (.ofR (iX _ _ _ hlt))), trivial⟩ (by omega)) ?_
   rintro v L ⟨rfl, rfl⟩
   exact aI ⟨_, rfl, by rw [hQ, decide_eq_true_eq]; exact eM _ _, rfl⟩ (fun _ => rfl)
 have n9 : ¬ o.kind = 9 := by simpa using g9
 exact aI ⟨_, rfl, tno fun e => (by simp [eZ, n2, n4, n6, n7, n8, n9] at e), rfl⟩ (fun _ => rfl)
theorem jT0 (m : Once) (q : Sl) (t : Int) (w : World) (h : At w [slo q aJ 1 m.waits]) (hb : m.waits.length ≤ 1048576) :
   Calls Tryz.prog 184 #[kO m q, .int .i64 t] w (gZ w (eG m ∧ m.state = 1 ∧ m.owner = t)) := by
 refine cM Tryz.func184 rfl aA w _ rfl _ rfl _ h ⟨rfl, rfl, trivial⟩ _ _ (by decide) ?_
 refine aB _ iZ0 rfl rfl rfl rfl ⟨rfl, rfl⟩ (fun A w hW => oY m q w ⟨hW.get 0 rfl (.refl _), trivial⟩ hb) ?_
 rintro v L ⟨b, rfl, hb2, rfl⟩
 apply CaseB.mk <;> intro g
 · have ok := hb2.1 z103
   apply CaseB.mk <;> intro g
   · have s1 : m.state = 1 := by simpa using g
     exact aI ⟨_, rfl, by simp [ok, s1], rfl⟩ (fun _ => rfl)
   · have s1 : ¬ m.state = 1 := by simpa using g
     exact aI ⟨_, rfl, tno fun e => s1 e.2.1, rfl⟩ (fun _ => rfl)
 · exact aI ⟨_, rfl, tno fun e => (by rw [hb2.2 e.1] at g; cases g), rfl⟩ (fun _ => rfl)
def nQ (s : State) (ops : List Op) (t at_ st q : Int) : Prop :=
 0 ≤ at_ ∧ at_ ≤ ops.length ∧ ((at_ = ops.length ∧ st = 3 ∧ q = 0) ∨
   ∃ op, ops[at_.toNat]? = some op ∧ ((st = 0 ∧ q = 0) ∨ (st = 1 ∧ q = 1 ∧ eZ s op t) ∨ (st = 2 ∧ q = 0 ∧ op.kind = 4 ∧ ∃ x, s.onces[op.on.toNat]? = some x ∧ x.state = 1 ∧ x.owner = t)))
theorem jU0 (p : ProgH) (s : StateH) (t : Nat) (q : Int) (w : World) (h : At w [fR (aV p), fR (aK s)]) (ok : ProgOk p.pure) (sh : SharedOk p.pure s.pure)
   (c0 : s.places.length = p.threads.length) (c1 : s.status.length = p.threads.length) (ht : t < p.threads.length) :
   Calls Tryz.prog 148 #[dJ p, aM s, .int .i64 t, .int .i64 q] w (gZ w (nQ s.pure (p.threads[t]).m t s.places[t] s.status[t] q)) := by
 have l3 : s.pure.onces.length = s.onces.length := by simp [StateH.pure]
 have hmem : (p.threads[t]).m ∈ p.pure.threads := List.mem_map_of_mem (List.getElem_mem ht)
 have l8 := (ok.ops _ hmem).1
 refine nY0 Tryz.func148 rfl aA w _ rfl _ rfl _ h ⟨rfl, rfl, rfl, rfl, trivial⟩ _ _ _ _ (by decide) ?_
 refine aG aD aA rfl rfl rfl rfl rfl ⟨rfl, rfl⟩ (aL 1 rfl (.ofR (fX s))) t rfl z48 (fun ad0 => ?_)
 apply CaseB.mk <;> intro g
 · have n : ¬ 0 ≤ s.places[t] := by have g' := of_decide_eq_true g; omega
   exact aI ⟨_, rfl, tno fun e => n e.1, rfl⟩ (fun _ => rfl)
 have a0 : 0 ≤ s.places[t] := by have g' := of_decide_eq_false g; omega
 refine aG dR aA rfl rfl rfl rfl rfl ⟨rfl, rfl⟩ (aL 0 rfl (.trans (.R_R (aY p)) (.ofR bG))) t rfl z48 (fun ad1 => ?_)
 apply CaseB.mk <;> intro g
 · have n : ¬ s.places[t] ≤ (p.threads[t]).m.length := by have g' := of_decide_eq_true g; omega
   exact aI ⟨_, rfl, tno fun e => n e.2.1, rfl⟩ (fun _ => rfl)
 have hz : s.places[t] = ((s.places[t]).toNat : Int) := (Int.toNat_of_nonneg a0).symm
 have a1 : s.places[t] ≤ (p.threads[t]).m.length := by have g' := of_decide_eq_false g; omega
 refine aG dR aA rfl rfl rfl rfl rfl ⟨rfl, rfl⟩ (aL 0 rfl (.trans (.R_R (aY p)) (.ofR bG))) t rfl z48 (fun ad2 => ?_)
 apply CaseB.mk <;> intro g
 · have ae : s.places[t] = (p.threads[t]).m.length := by simpa using g
   have hT : nQ s.pure (p.threads[t]).m t s.places[t] s.status[t] q ↔ s.status[t] = 3 ∧ q = 0 := by
     constructor
     · rintro ⟨_, _, h | ⟨op, h, _⟩⟩
       · exact h.2
       · have := (List.getElem?_eq_some_iff.1 h).1; omega
     · intro h; exact ⟨a0, a1, .inl ⟨ae, h⟩⟩
   refine aG aD aA rfl rfl rfl rfl rfl ⟨rfl, rfl⟩ (aL 1 rfl (.ofR (cZ s))) t rfl z48 (fun ad3 => ?_)
   apply CaseB.mk <;> intro g
   · have s3 : s.status[t] = 3 := by simpa using g
     exact aI ⟨_, rfl, by rw [hT]; simp [s3], rfl⟩ (fun _ => rfl)
   · have s3 : ¬ s.status[t] = 3 := by simpa using g
     exact aI ⟨_, rfl, tno fun e => s3 (hT.1 e).1, rfl⟩ (fun _ => rfl)
 have ane : ¬ s.places[t] = (p.threads[t]).m.length := by simpa using g
 have hlo : (s.places[t]).toNat < (p.threads[t]).m.length := by omega
 obtain ⟨op, hop⟩ : ∃ op, (p.threads[t]).m[(s.places[t]).toNat]? = some op := ⟨_, List.getElem?_eq_getElem hlo⟩
 have hopg : (p.threads[t]).m[(s.places[t]).toNat] = op := by rw [List.getElem?_eq_getElem hlo] at hop; injection hop
 have hopok : OpOk p.pure op := (ok.ops _ hmem).2 _ (List.mem_of_getElem? hop)
 have hT : nQ s.pure (p.threads[t]).m t s.places[t] s.status[t] q ↔ ((s.status[t] = 0 ∧ q = 0) ∨ (s.status[t] = 1 ∧ q = 1 ∧ eZ s.pure op t) ∨ (s.status[t] = 2 ∧ q = 0 ∧ op.kind = 4 ∧ ∃ x, s.pure.onces[op.on.toNat]? = some x ∧ x.state = 1 ∧ x.owner = t)) := by
   constructor
   · rintro ⟨_, _, h | ⟨op', h, h2⟩⟩
     · exact (ane h.1).elim
     · rw [hop] at h; injection h with h; subst h; exact h2
   · intro h; exact ⟨a0, a1, .inr ⟨op, hop, h⟩⟩
 refine aG dR aA rfl rfl rfl rfl rfl ⟨rfl, rfl⟩ (aL 0 rfl (.trans (.R_R (aY p)) (.ofR bG))) t rfl z48 (fun ad3 => ?_)
 refine aG oH aA rfl rfl rfl rfl rfl ⟨rfl, rfl⟩ (aL 0 rfl (.trans (.R_R (aY p)) (.ofR (fW _ _ t ht)))) (s.places[t]).toNat (by first | exact hz | exact hz.symm | exact congrArg _ hz) z48 (fun ad4 => ?_)
 rw [hopg]
 refine aG aD aA rfl rfl rfl rfl rfl ⟨rfl, rfl⟩ (aL 1 rfl (.ofR (cZ s))) t rfl z48 (fun ad5 => ?_)
 refine CaseB.mk (fun g => ?_) (fun g0 => ?_)
 · have s0 : s.status[t] = 0 := by simpa using g
   exact aI ⟨_, rfl, by rw [hT, s0]; simp, rfl⟩ (fun _ => rfl)
 have n0 : ¬ s.status[t] = 0 := by simpa using g0
 refine CaseB.mk (fun g => ?_) (fun g1 => ?_)
 · have s1 : s.status[t] = 1 := by simpa using g
   apply CaseB.mk <;> intro g
   · have q1 : q = 1 := by simpa using g
     refine aB _ cl183 rfl rfl rfl rfl ⟨rfl, rfl⟩ (fun A w hW => mD0 p.pure s op t w ⟨hW.get 1 rfl (.refl _), trivial⟩ sh hopok) ?_
     rintro v L ⟨b, rfl, hb, rfl⟩
     exact aI ⟨_, rfl, by rw [hT, s1, q1, hb]; simp, rfl⟩ (fun _ => rfl)
   · have q1 : ¬ q = 1 := by simpa using g
     exact aI ⟨_, rfl, tno fun e => (by rcases hT.1 e with h | h | h; exact n0 h.1; exact q1 h.2.1; rw [s1] at h; exact absurd h.1 (by decide)), rfl⟩ (fun _ => rfl)
 have n1 : ¬ s.status[t] = 1 := by simpa using g1
 refine CaseB.mk (fun g => ?_) (fun g2 => ?_)
 · have s2 : s.status[t] = 2 := by simpa using g
   have hT2 : nQ s.pure (p.threads[t]).m t s.places[t] s.status[t] q ↔ (q = 0 ∧ op.kind = 4 ∧ ∃ x, s.pure.onces[op.on.toNat]? = some x ∧ x.state = 1 ∧ x.owner = t) := by
     rw [hT, s2]; simp
   apply CaseB.mk <;> intro g
   · have q0 : q = 0 := by simpa using g
     apply CaseB.mk <;> intro g
     · have k4 : op.kind = 4 := by simpa using g
       obtain ⟨o0, o1, _⟩ := (jO0 k4).1 hopok
       have hl3 := sh.lonces
       have hlt : op.on.toNat < s.onces.length := by omega
       have hat : s.pure.onces[op.on.toNat]? = some (s.onces[op.on.toNat]).m := by simp [StateH.pure, hlt]
       have hok := sh.onces _ (List.mem_of_getElem? hat)
       have hq := eV hok
       refine aG cX aA rfl rfl rfl rfl rfl ⟨rfl, rfl⟩ (aL 1 rfl (.trans (.R_R (bX s)) (.ofR bG))) op.on.toNat (by omega) z48 (fun ad6 => ?_)
       refine aB _ nD0 rfl rfl rfl rfl ⟨rfl, rfl⟩ (fun A w hW => jT0 _ _ t w ⟨hW.get 1 rfl (.trans (.R_R (bX s)) (.ofR (iW _ _ _ hlt))), trivial⟩ (by omega)) ?_
       rintro v L ⟨b, rfl, hb, rfl⟩
       exact aI ⟨_, rfl, by rw [hT2, hb, only hat]; simp [q0, k4, hok], rfl⟩ (fun _ => rfl)
     · have k4 : ¬ op.kind = 4 := by simpa using g
       exact aI ⟨_, rfl, tno fun e => k4 (hT2.1 e).2.1, rfl⟩ (fun _ => rfl)
   · have q0 : ¬ q = 0 := by simpa using g
     exact aI ⟨_, rfl, tno fun e => q0 (hT2.1 e).1, rfl⟩ (fun _ => rfl)
 have n2 : ¬ s.status[t] = 2 := by simpa using g2
 exact aI ⟨_, rfl, tno fun e => (by rcases hT.1 e with h | h | h; exact n0 h.1; exact n1 h.1; exact n2 h.1), rfl⟩ (fun _ => rfl)
def oI0 (p : Prog) (s : State) (i : Nat) (x : Once) : Prop := x.state = 1 → ∃ t : Nat, x.owner = t ∧ ∃ ops at_ op, p.threads[t]? = some ops ∧ s.status[t]? = some 2 ∧ s.places[t]? = some at_ ∧ ops[at_.toNat]? = some op ∧ op.on = i
def gB0 (p : Prog) (s : State) : Prop := ∀ (i : Nat) x, s.onces[i]? = some x → oI0 p s i x
theorem jV0 (p : ProgH) (s : StateH) (w : World) (h : At w [fR (aV p), fR (aK s)]) (ok : ProgOk p.pure) (sh : SharedOk p.pure s.pure)
   (c0 : s.places.length = p.threads.length) (c1 : s.status.length = p.threads.length)
   (hst : ∀ (t : Nat) (ht : t < p.threads.length), s.status[t] = 2 → 0 ≤ s.places[t] ∧ s.places[t] < (p.threads[t]).m.length) :
   Calls Tryz.prog 149 #[dJ p, aM s] w (gZ w (gB0 p.pure s.pure)) := by
 have l3 : s.pure.onces.length = s.onces.length := by simp [StateH.pure]
 have hl3 := sh.lonces
 have n4 : p.threads.length ≤ 4 := by have := ok.n4; simpa [ProgH.pure] using this
 refine cM Tryz.func149 rfl aA w _ rfl _ rfl _ h ⟨rfl, rfl, rfl, rfl, trivial⟩ _ _ (by decide) ?_
 refine LoopW.mk ⟨{ k : Nat // k ≤ s.onces.length ∧ ∀ (i : Nat) x, i < k → s.pure.onces[i]? = some x → oI0 p.pure s.pure i x },
   fun k => .mk [(2, .p 0 0), (3, .p 1 0), (5, .v (.int .i64 (k.1 : Int)))] 2 0 [(0, 26, 5), (1, 35, 9)] [((0, 0), .v (p.h0.val p.sems.length)), ((0, 1), .v (p.h1.val p.groups.length)), ((0, 2), .v (p.h2.val p.barriers.length)), ((0, 3), .v (p.h3.val p.rooms.length)), ((0, 4), .v (p.h4.val p.threads.length)), ((1, 0), .v (s.h0.val s.places.length)), ((1, 1), .v (s.h1.val s.status.length)), ((1, 2), .v (s.h2.val s.sems.length)), ((1, 3), .v (s.h3.val s.onces.length)), ((1, 4), .v (s.h4.val s.groups.length)), ((1, 5), .v (s.h5.val s.barriers.length)), ((1, 6), .v (s.h6.val s.chans.length)), ((1, 7), .v (s.h7.val s.said.length)), ((1, 8), .v (.int .i64 s.fault))] [fR (aV p), fR (aK s)],
   fun k => s.onces.length - k.1, ⟨0, Nat.zero_le _, fun i x hi => by omega⟩, ?_, ?_⟩
 · exact aC [0, 1] zw2 zw0 zw2 zw5 zw4 rfl rfl
 rintro ⟨k, hk, hinv⟩
 apply CaseB.mk <;> intro g
 · have hlt : k < s.onces.length := by simpa using g
   have hw := bE k _ hlt (by omega)
   have hat : s.pure.onces[k]? = some (s.onces[k]).m := by simp [StateH.pure, hlt]
   have hok := sh.onces _ (List.mem_of_getElem? hat)
   refine aG cX aA rfl rfl rfl rfl rfl ⟨rfl, rfl⟩ (aL 1 rfl (.trans (.R_R (bX s)) (.ofR bG))) k rfl z48 (fun ad => ?_)
   apply CaseB.mk <;> intro g
   · have n : ¬ (s.onces[k]).m.state = 1 := by simpa using g
     refine ⟨⟨k + 1, by omega, fun i x hi hx => ?_⟩, ?_, by simp only; omega⟩
     · by_cases e : i < k
       · exact hinv i x e hx
       · obtain rfl : i = k := by omega
         rw [hat] at hx
         injection hx with hx
         subst hx
         exact fun e => (n e).elim
     · exact aC [0, 1] zw1 zw0 zw1 zw5 zw3 rfl rfl
   have r1 : (s.onces[k]).m.state = 1 := by simpa using g
   have w0 : 0 ≤ (s.onces[k]).m.owner := by
     rcases hok with h | h | h
     · omega
     · have h2 := h.2.1; simp [bA] at h2; omega
     · omega
   obtain ⟨t, hz⟩ : ∃ t : Nat, (s.onces[k]).m.owner = (t : Int) := ⟨_, (Int.toNat_of_nonneg w0).symm⟩
   refine aE aA z107 z107 z107 200 [((0, 4), .v (p.h4.val p.threads.length)), ((1, 0), .v (s.h0.val s.places.length)), ((1, 1), .v (s.h1.val s.status.length)), ((2, 1), .v (.int .i64 (s.onces[k]).m.owner))] [0, 1] [_, _] z129 z145 ⟨rfl, rfl, trivial⟩ rfl ?_
   apply CaseB.mk <;> intro g
   · have n : ¬ t < p.threads.length := by have g' := of_decide_eq_true g; omega
     refine aI ⟨_, rfl, tno fun e => n ?_, rfl⟩ (fun _ => rfl)
     obtain ⟨t', e1, ops, at_, op, e2, _⟩ := e k _ hat r1
     have := (List.getElem?_eq_some_iff.1 e2).1
     have e3 : p.pure.threads.length = p.threads.length := by simp [ProgH.pure]
     omega
   have ht : t < p.threads.length := by have g' := of_decide_eq_false g; omega
   refine bM (ti := aU tab) aD aA rfl rfl rfl rfl rfl ⟨rfl, rfl⟩ (aL 1 rfl (.ofR (cZ s))) t hz z48 (fun ad2 => ?_)
   apply CaseB.mk <;> intro g
   · have n : ¬ s.status[t] = 2 := by simpa using g
     refine aI ⟨_, rfl, tno fun e => n ?_, rfl⟩ (fun _ => rfl)
     obtain ⟨t', e1, ops, at_, op, e2, e3, _⟩ := e k _ hat r1
     obtain rfl : t' = t := by omega
     have e4 : s.status[t']? = some 2 := e3
     exact (List.getElem?_eq_some_iff.1 e4).2
   have s2 : s.status[t] = 2 := by simpa using g
   obtain ⟨p0, p1⟩ := hst t ht s2
   have hz2 : s.places[t] = ((s.places[t]).toNat : Int) := (Int.toNat_of_nonneg p0).symm
   have hlo : (s.places[t]).toNat < (p.threads[t]).m.length := by omega
   obtain ⟨op, hop⟩ : ∃ op, (p.threads[t]).m[(s.places[t]).toNat]? = some op := ⟨_, List.getElem?_eq_getElem hlo⟩
   have hopg : (p.threads[t]).m[(s.places[t]).toNat] = op := by rw [List.getElem?_eq_getElem hlo] at hop; injection hop
   have hst2 : s.pure.status[t]? = some 2 := by
     show s.status[t]? = some 2
     rw [List.getElem?_eq_getElem (by omega), s2]
   have hth : p.pure.threads[t]? = some (p.threads[t]).m := by simp [ProgH.pure, ht]
   have hpl : s.pure.places[t]? = some s.places[t] := List.getElem?_eq_getElem (show t < s.places.length by omega)
   have hO : oI0 p.pure s.pure k (s.onces[k]).m ↔ op.on = k := by
     constructor
     · intro e
       obtain ⟨t', e1, ops, at_, op', e2, e3, e4, e5, e6⟩ := e r1
       obtain rfl : t' = t := by omega
       rw [hth] at e2; injection e2 with e2; subst e2
       rw [hpl] at e4; injection e4 with e4; subst e4
       rw [hop] at e5; injection e5 with e5; subst e5
       exact e6
     · intro e _
       exact ⟨t, hz, _, _, _, hth, hst2, hpl, hop, e⟩
   refine bM (ti := aU tab) dR aA rfl rfl rfl rfl rfl ⟨rfl, rfl⟩ (aL 0 rfl (.trans (.R_R (aY p)) (.ofR bG))) t hz z48 (fun ad3 => ?_)
   refine bM (ti := aU tab) aD aA rfl rfl rfl rfl rfl ⟨rfl, rfl⟩ (aL 1 rfl (.ofR (fX s))) t hz z48 (fun ad4 => ?_)
   refine bM (ti := aU tab) oH aA rfl rfl rfl rfl rfl ⟨rfl, rfl⟩ (aL 0 rfl (.trans (.R_R (aY p)) (.ofR (fW _ _ t ht)))) (s.places[t]).toNat hz2 z48 (fun ad5 => ?_)
   rw [hopg]
   apply CaseB.mk <;> intro g
   · have n : ¬ op.on = k := by simpa using g
     exact aI ⟨_, rfl, tno fun e => n (hO.1 (e k _ hat)), rfl⟩ (fun _ => rfl)
   have q1 := hO.2 z103
   refine ⟨⟨k + 1, by omega, fun i x hi hx => ?_⟩, ?_, by simp only; omega⟩
   · by_cases e : i < k
     · exact hinv i x e hx
     · obtain rfl : i = k := by omega
       rw [hat] at hx
       injection hx with hx
       subst hx
       exact q1
   · exact aC [0, 1] zw1 zw0 zw1 zw5 zw3 rfl rfl
 have hge : s.onces.length ≤ k := by simpa using g
 exact aI ⟨_, rfl, iZ fun i x hx => hinv i x z85 hx, rfl⟩ (fun _ => rfl)
end Go.Proofs.YtijmjecehppbfaaGreat
