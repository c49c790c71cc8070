/- FnStepOthers: texts that its proof stands on, part 5. -/
import Derived.Test.YtjkkoonennpceaaGreatQStepOthersd
namespace Go.Proofs.YtjkkoonennpceaaGreat
open Go Go.Sx Go.RowKit
set_option maxRecDepth 100000 in
theorem l7Rest_c (p : ProgH) (t c : Int) (k : Nat) (hk : k < p.threads.length) (ht : t = (k : Int)) (w : World) (h : At w [fR (progO p)]) :
   Calls Tryz.prog 146 #[progV p, .int .i64 t, .int .i64 c] w (Ret w fun v L => v = .int .i64 (if c = ((p.threads[k]).m.length : Int) then 3 else 0) ∧ L = []) := by
 refine calls3 Tryz.func146 rfl tabOk w _ rfl _ rfl _ h ⟨rfl, rfl, trivial⟩ _ _ _ (by decide) ?_
 refine stop_idx encOpSH tabOk rfl rfl rfl rfl rfl ⟨rfl, rfl⟩ (rdVia 0 rfl (.trans (.R_R (progO_threads p)) (.ofR nest_h))) k (ht) z38 (fun ad => ?_)
 apply CaseB.mk <;> intro g
 · have q : c = ((p.threads[k]).m.length : Int) := by simpa using g
   exact ret0 ⟨by rw [if_pos q], rfl⟩ (fun _ => rfl)
 · have q : ¬ c = ((p.threads[k]).m.length : Int) := by simpa using g
   exact ret0 ⟨by rw [if_neg q], rfl⟩ (fun _ => rfl)
set_option maxRecDepth 100000 in
theorem newSem_c (n : Int) (h0 : 1 ≤ n) (h1 : n ≤ 9) (w : World) : Calls Tryz.prog 147 #[.int .i64 n] w (Ret w fun v L => ∃ y : Sl, v = .tuple #[semV ⟨n, n, []⟩ y, .bool true] ∧ L = [own y 137 cWaiter 2 ([] : List Waiter)]) := by
 refine calls1 Tryz.func147 rfl tabOk w _ rfl _ rfl [] trivial trivial _ (by decide) ?_
 refine CaseB.mk (fun g => by simp at g; omega) (fun g => ?_)
 refine CaseB.mk (fun g => by simp at g; omega) (fun g => ?_)
 refine AllSl.mk fun y => ?_
 exact retw [0] ⟨y, rfl, rfl⟩ z133 rfl ⟨rfl, trivial⟩ (fun _ => rfl)
set_option maxRecDepth 100000 in
theorem newBarrier_c (n : Int) (h0 : 1 ≤ n) (h1 : n ≤ 6) (w : World) : Calls Tryz.prog 148 #[.int .i64 n] w (Ret w fun v L => ∃ y : Sl, v = .tuple #[barrierV ⟨n, 0, []⟩ y, .bool true] ∧ L = [own y 3 cInt 1 ([] : List Int)]) := by
 refine calls1 Tryz.func148 rfl tabOk w _ rfl _ rfl [] trivial trivial _ (by decide) ?_
 refine CaseB.mk (fun g => by simp at g; omega) (fun g => ?_)
 refine CaseB.mk (fun g => by simp at g; omega) (fun g => ?_)
 refine AllSl.mk fun y => ?_
 exact retw [0] ⟨y, rfl, rfl⟩ z133 rfl ⟨rfl, trivial⟩ (fun _ => rfl)
set_option maxRecDepth 100000 in
theorem newChan_c (n : Int) (h0 : 0 ≤ n) (h1 : n ≤ 4) (w : World) : Calls Tryz.prog 149 #[.int .i64 n] w (Ret w fun v L => ∃ y z u : Sl, v = .tuple #[chanV ⟨n, [], [], [], false⟩ y z u, .bool true] ∧ L = [own y 3 cInt 1 ([] : List Int), own z 144 cLet 2 ([] : List Letter), own u 3 cInt 1 ([] : List Int)]) := by
 refine calls1 Tryz.func149 rfl tabOk w _ rfl _ rfl [] trivial trivial _ (by decide) ?_
 refine CaseB.mk (fun g => by simp at g; omega) (fun g => ?_)
 refine CaseB.mk (fun g => by simp at g; omega) (fun g => ?_)
 refine AllSl.mk fun y => ?_
 refine AllSl.mk fun z => ?_
 refine AllSl.mk fun u => ?_
 exact retw [2, 1, 0] ⟨y, z, u, rfl, rfl⟩ z117 rfl ⟨rfl, rfl, rfl, trivial⟩ (fun _ => rfl)
set_option maxHeartbeats 16000000 in
set_option maxRecDepth 100000 in
theorem startProgS_c (p : ProgH) (w : World) (h : At w [fR (progO p)]) (hs : p.sems.length ≤ 1048576 ∧ p.groups.length ≤ 1048576 ∧ p.barriers.length ≤ 1048576 ∧ p.rooms.length ≤ 1048576) :
   Calls Tryz.prog 98 #[progV p] w (Ret w (Started p.pure)) := by
 refine calls1 Tryz.func98 rfl tabOk w _ rfl _ rfl _ h ⟨rfl, rfl, trivial⟩ _ (by decide) ?_
 refine stop_call _ cl65 rfl rfl rfl rfl ⟨rfl, rfl⟩ (fun A w hW => progValidS_c p w ⟨hW.get 0 rfl (.refl _), trivial⟩ hs) ?_
 rintro v L ⟨b, rfl, hb, rfl⟩
 apply CaseB.mk <;> intro g
 · have hn : ¬ ProgOk p.pure := fun e => by rw [hb.2 e] at g; cases g
   refine ret_shift (.joinO [90] (Gs := [_]) ⟨.inr ⟨Nat.le_of_ble_eq_true rfl, zero_nil⟩, trivial⟩ rfl (G := stateO StateH.zero) (.of_eq (by simp))) ?_
   exact retw [0] ⟨StateH.zero, false, rfl, tno hn, fun e => z98, fun _ => rfl, rfl⟩ z133 rfl ⟨rfl, trivial⟩ (fun _ => rfl)
 have ok := hb.1 z91
 have n4 : p.threads.length ≤ 4 := by have := ok.n4; simpa [ProgH.pure] using this
 have m0 : p.sems.length ≤ 3 := ok.sems.1
 have m1 : p.groups.length ≤ 3 := ok.groups.1
 have m2 : p.barriers.length ≤ 3 := ok.barriers.1
 have m3 : p.rooms.length ≤ 3 := ok.rooms.1
 obtain ⟨LP, hLP⟩ : ∃ l, l = p.threads.map (fun _ => (0 : Int)) := ⟨_, rfl⟩
 obtain ⟨LS, hLS⟩ : ∃ l, l = p.threads.map (fun x => rest x.m) := ⟨_, rfl⟩
 have lP : LP.length = p.threads.length := by rw [hLP]; simp
 have lS : LS.length = p.threads.length := by rw [hLS]; simp
 refine LoopW.mk ⟨{ q : Nat × Sl × Sl // q.1 ≤ p.threads.length },
   fun q => .mk [(1, .p 0 0), (2, .p 1 0), (4, .p 2 0), (5, .v (.int .i64 (q.1.1 : Int)))] 3 0 [(0, 37, 5), (1, 30, 9), (2, 30, 9)]
     [((0, 0), .v (p.h0.val p.sems.length)), ((0, 1), .v (p.h1.val p.groups.length)), ((0, 2), .v (p.h2.val p.barriers.length)), ((0, 3), .v (p.h3.val p.rooms.length)), ((0, 4), .v (p.h4.val p.threads.length)), ((2, 0), .v (q.1.2.1.val (LP.take q.1.1).length)), ((2, 1), .v (q.1.2.2.val (LS.take q.1.1).length)), ((2, 2), .v (.slice none 0 0)), ((2, 3), .v (.slice none 0 0)), ((2, 4), .v (.slice none 0 0)), ((2, 5), .v (.slice none 0 0)), ((2, 6), .v (.slice none 0 0)), ((2, 7), .v (.slice none 0 0)), ((2, 8), .v (.int .i64 0))]
     [own q.1.2.1 3 cInt 1 (LP.take q.1.1), own q.1.2.2 3 cInt 1 (LS.take q.1.1), fR (progO p)],
   fun q => p.threads.length - q.1.1, ⟨(0, ⟨none, 0⟩, ⟨none, 0⟩), Nat.zero_le _⟩, ?_, ?_⟩
 · exact weak_mk [99, 98, 0] zw2 zw0 zw2 zw5 zw4 rfl rfl
 rintro ⟨⟨k, a, s⟩, hk⟩
 simp only at hk
 apply CaseB.mk <;> intro g
 · have hlt : k < p.threads.length := by simpa using g
   have eP : LP.take k ++ [0] = LP.take (k + 1) := by rw [hLP]; exact map_take_succ hlt rfl rfl
   have eS : ∀ x, x = rest (p.threads[k]).m → LS.take k ++ [x] = LS.take (k + 1) := fun x hx => by rw [hLS]; exact map_take_succ hlt rfl hx
   have hw := e_succ k _ hlt (by omega)
   refine AllSl.mk fun u => ?_
   refine stop_app encInt 1 tabOk (ys := [0]) rfl rfl rfl rfl rfl rfl rfl rfl rfl (by decide) ⟨rfl, rfl⟩ rfl z30 z38 z38 (fun a2 => ?_)
   rw [eP]
   have hr : (if (0 : Int) = ((p.threads[k]).m.length : Int) then (3 : Int) else 0) = rest (p.threads[k]).m := by
     simp only [rest]
     by_cases h0 : (p.threads[k]).m.length = 0
     · simp [h0]
     · rw [if_neg h0, if_neg (by omega)]
   refine draw_start tabOk z95 z95 z95 200 [((0, 0), .v (p.h0.val p.sems.length)), ((0, 1), .v (p.h1.val p.groups.length)), ((0, 2), .v (p.h2.val p.barriers.length)), ((0, 3), .v (p.h3.val p.rooms.length)), ((0, 4), .v (p.h4.val p.threads.length))] [3] [_] z108 z122 ⟨rfl, trivial⟩ rfl ?_
   refine BothW.mk ?_ ?_
   all_goals
     refine d_call _ cl146 rfl rfl rfl rfl ⟨rfl, rfl⟩ (fun A w hW => l7Rest_c p _ 0 k hlt rfl w ⟨hW.get 3 rfl (.refl _), trivial⟩) ?_
     rintro v L ⟨rfl, rfl⟩
     rw [hr]
   rotate_left
   · refine BothW.mk ?_ ?_
     all_goals
       refine AllSl.mk fun u2 => ?_
       refine d_app (ti := tiOf tab) encInt 3 tabOk (ys := [rest (p.threads[k]).m]) rfl rfl rfl rfl rfl rfl rfl rfl rfl (by decide) ⟨rfl, rfl⟩ rfl z30 z38 z38 z93 (fun s2 => ?_)
       rw [eS _ rfl]
       refine ⟨⟨(k + 1, a2, s2), by omega⟩, ?_, by simp only; omega⟩
       exact weak_mk [2, 0, 4] zw1 zw0 zw1 zw5 zw3 rfl rfl
   refine AllSl.mk fun u2 => ?_
   refine d_app (ti := tiOf tab) encInt 3 tabOk (ys := [rest (p.threads[k]).m]) rfl rfl rfl rfl rfl rfl rfl rfl rfl (by decide) ⟨rfl, rfl⟩ rfl z30 z38 z38 z93 (fun s2 => ?_)
   rw [eS _ rfl]
   refine ⟨⟨(k + 1, a2, s2), by omega⟩, ?_, by simp only; omega⟩
   exact weak_mk [2, 0, 4] zw1 zw0 zw1 zw5 zw3 rfl rfl
 have hge : p.threads.length ≤ k := by simpa using g
 have eP : LP.take k = LP := List.take_of_length_le (by omega)
 have eS : LS.take k = LS := List.take_of_length_le (by omega)
 refine LoopW.mk ⟨{ q : Nat × Sl × List SemH // q.1 ≤ p.sems.length ∧ q.2.2.map (·.m) = (p.sems.map fun n => (⟨n, n, []⟩ : Sem)).take q.1 },
   fun q => .mk [(1, .p 0 0), (2, .p 1 0), (4, .p 2 0), (6, .v (.int .i64 (q.1.1 : Int)))] 3 0 [(0, 37, 5), (1, 30, 9), (2, 30, 9)]
     [((0, 0), .v (p.h0.val p.sems.length)), ((0, 1), .v (p.h1.val p.groups.length)), ((0, 2), .v (p.h2.val p.barriers.length)), ((0, 3), .v (p.h3.val p.rooms.length)), ((0, 4), .v (p.h4.val p.threads.length)), ((2, 0), .v (a.val LP.length)), ((2, 1), .v (s.val LS.length)), ((2, 2), .v (q.1.2.1.val q.1.2.2.length)), ((2, 3), .v (.slice none 0 0)), ((2, 4), .v (.slice none 0 0)), ((2, 5), .v (.slice none 0 0)), ((2, 6), .v (.slice none 0 0)), ((2, 7), .v (.slice none 0 0)), ((2, 8), .v (.int .i64 0))]
     [own q.1.2.1 57 cSemH 3 q.1.2.2, fO (q.1.2.2.flatMap semO), own a 3 cInt 1 LP, own s 3 cInt 1 LS, fR (progO p)],
   fun q => p.sems.length - q.1.1, ⟨(0, ⟨none, 0⟩, []), Nat.zero_le _, by simp⟩, ?_, ?_⟩
 · refine weak_shift (.joinO [] (Gs := []) trivial rfl (.refl _)) ?_
   refine weak_mk [99, 0, 1, 2, 3] ?_ ?_ ?_ ?_ ?_ rfl rfl
   · exact zw20
   · exact zw0
   · exact zw20
   · exact zw5
   · repeat (first | exact trivial | refine ⟨.inl ⟨_, rfl, (by first | rfl | ((first | (rw [eP]; done) | (rw [eS]; done))))⟩, ?_⟩ | refine ⟨.inr z128, ?_⟩)
 rintro ⟨⟨k0, c0, l0⟩, hk, hl0⟩
 simp only at hk hl0
 have ln0 : l0.length = k0 := by have := congrArg List.length hl0; simp at this; omega
 apply CaseB.mk <;> intro g
 · have hlt : k0 < p.sems.length := by simpa using g
   have hw := e_succ k0 _ hlt (by omega)
   have hv := ok.sems.2 _ (List.getElem_mem hlt)
   refine stop_idx encInt tabOk rfl rfl rfl rfl rfl ⟨rfl, rfl⟩ (rdVia 4 rfl (.ofR (progO_sems p))) k0 rfl z38 (fun ad => ?_)
   refine stop_call _ cl147 rfl rfl rfl rfl ⟨rfl, rfl⟩ (fun A w hW => newSem_c _ hv.1 hv.2 w) ?_
   rintro v L ⟨y, rfl, rfl⟩
   refine AllSl.mk fun r => ?_
   generalize hx : (⟨⟨p.sems[k0], p.sems[k0], []⟩, y⟩ : SemH) = x
   have hxm : x.m = ⟨p.sems[k0], p.sems[k0], []⟩ := by rw [← hx]
   refine stop_app encSemH 2 tabOk (ys := [x]) rfl rfl rfl rfl rfl (by rw [← hx]; rfl) rfl rfl rfl (by decide) ⟨rfl, rfl⟩ rfl (by rw [← hx]; exact rdOwnAt 0 rfl) z71 z62 (fun c' => ?_)
   refine ⟨⟨(k0 + 1, c', l0 ++ [x]), by omega, by rw [List.map_append]; exact map_take_succ hlt hl0 hxm⟩, ?_, by simp only; omega⟩
   refine weak_shift (.joinO [2, 3] (Gs := [[_], _]) z126 rfl (G := (l0 ++ [x]).flatMap semO) (by subst hx; rw [List.flatMap_append]; exact (List.Perm.of_eq (by simp [semO])).trans List.perm_append_comm)) ?_
   exact weak_mk [1, 0, 3, 4, 5] zw1 zw0 zw1 zw5 zw3 rfl rfl
 have hge0 : p.sems.length ≤ k0 := by simpa using g
 have m0' : l0.map (·.m) = p.sems.map fun n => (⟨n, n, []⟩ : Sem) := by rw [hl0, List.take_of_length_le (by simpa using hge0)]
 refine LoopW.mk ⟨{ q : Nat × Sl // q.1 ≤ 3 },
   fun q => .mk [(1, .p 0 0), (2, .p 1 0), (4, .p 2 0), (9, .v (.int .i64 (q.1.1 : Int)))] 3 0 [(0, 37, 5), (1, 30, 9), (2, 30, 9)]
     [((0, 0), .v (p.h0.val p.sems.length)), ((0, 1), .v (p.h1.val p.groups.length)), ((0, 2), .v (p.h2.val p.barriers.length)), ((0, 3), .v (p.h3.val p.rooms.length)), ((0, 4), .v (p.h4.val p.threads.length)), ((2, 0), .v (a.val LP.length)), ((2, 1), .v (s.val LS.length)), ((2, 2), .v (c0.val l0.length)), ((2, 3), .v (q.1.2.val (List.replicate q.1.1 onceZ).length)), ((2, 4), .v (.slice none 0 0)), ((2, 5), .v (.slice none 0 0)), ((2, 6), .v (.slice none 0 0)), ((2, 7), .v (.slice none 0 0)), ((2, 8), .v (.int .i64 0))]
     [own q.1.2 70 cOnceH 4 (List.replicate q.1.1 onceZ), own c0 57 cSemH 3 l0, fO (l0.flatMap semO), own a 3 cInt 1 LP, own s 3 cInt 1 LS, fR (progO p)],
   fun q => 3 - q.1.1, ⟨(0, ⟨none, 0⟩), Nat.zero_le _⟩, ?_, ?_⟩
 · exact weak_mk [99, 0, 1, 2, 3, 4] zw2 zw0 zw2 zw5 zw4 rfl rfl
 rintro ⟨⟨k1, c1⟩, hk⟩
 simp only at hk
 apply CaseB.mk <;> intro g
 · have hlt : k1 < 3 := by have g' := of_decide_eq_true g; simp only at g'; omega
   have hw := e_succ k1 3 hlt (by omega)
   refine AllSl.mk fun u => ?_
   refine stop_app encOnceH 1 tabOk (ys := [onceZ]) rfl rfl rfl rfl rfl rfl rfl rfl rfl (by decide) ⟨rfl, rfl⟩ rfl z30 z38 z38 (fun c' => ?_)
   rw [← List.replicate_succ']
   refine ⟨⟨(k1 + 1, c'), by omega⟩, ?_, by simp only; omega⟩
   exact weak_mk [0, 2, 3, 4, 5, 6] zw1 zw0 zw1 zw5 zw3 rfl rfl
 have hge1 : k1 = 3 := by have g' := of_decide_eq_false g; simp only at g'; omega
 have e1 : List.replicate k1 onceZ = [onceZ, onceZ, onceZ] := by rw [hge1]; rfl
 obtain ⟨L2, hL2⟩ : ∃ l, l = p.groups.map (fun n => (⟨⟨n, []⟩, ⟨none, 0⟩⟩ : GroupH)) := ⟨_, rfl⟩
 have lenL2 : L2.length = p.groups.length := by rw [hL2]; simp
 refine LoopW.mk ⟨{ q : Nat × Sl // q.1 ≤ p.groups.length },
   fun q => .mk [(1, .p 0 0), (2, .p 1 0), (4, .p 2 0), (10, .v (.int .i64 (q.1.1 : Int)))] 3 0 [(0, 37, 5), (1, 30, 9), (2, 30, 9)]
     [((0, 0), .v (p.h0.val p.sems.length)), ((0, 1), .v (p.h1.val p.groups.length)), ((0, 2), .v (p.h2.val p.barriers.length)), ((0, 3), .v (p.h3.val p.rooms.length)), ((0, 4), .v (p.h4.val p.threads.length)), ((2, 0), .v (a.val LP.length)), ((2, 1), .v (s.val LS.length)), ((2, 2), .v (c0.val l0.length)), ((2, 3), .v (c1.val [onceZ, onceZ, onceZ].length)), ((2, 4), .v (q.1.2.val (L2.take q.1.1).length)), ((2, 5), .v (.slice none 0 0)), ((2, 6), .v (.slice none 0 0)), ((2, 7), .v (.slice none 0 0)), ((2, 8), .v (.int .i64 0))]
     [own q.1.2 74 cGroupH 2 (L2.take q.1.1), own c1 70 cOnceH 4 [onceZ, onceZ, onceZ], own c0 57 cSemH 3 l0, fO (l0.flatMap semO), own a 3 cInt 1 LP, own s 3 cInt 1 LS, fR (progO p)],
   fun q => p.groups.length - q.1.1, ⟨(0, ⟨none, 0⟩), Nat.zero_le _⟩, ?_, ?_⟩
 · refine weak_mk [99, 0, 1, 2, 3, 4, 5] ?_ ?_ ?_ ?_ ?_ rfl rfl
   · exact zw22
   · exact zw0
   · exact zw22
   · exact zw5
   · repeat (first | exact trivial | refine ⟨.inl ⟨_, rfl, (by first | rfl | ((first | (rw [e1]; done))))⟩, ?_⟩ | refine ⟨.inr z128, ?_⟩)
 rintro ⟨⟨k2, c2⟩, hk⟩
 simp only at hk
 apply CaseB.mk <;> intro g
 · have hlt : k2 < p.groups.length := by simpa using g
   have e : ∀ x, x = (⟨⟨p.groups[k2], []⟩, ⟨none, 0⟩⟩ : GroupH) → L2.take k2 ++ [x] = L2.take (k2 + 1) := fun x hx => by rw [hL2]; exact map_take_succ hlt rfl hx
   have hw := e_succ k2 _ hlt (by omega)
   refine draw_start tabOk z95 z95 z95 200 [((0, 0), .v (p.h0.val p.sems.length)), ((0, 1), .v (p.h1.val p.groups.length)), ((0, 2), .v (p.h2.val p.barriers.length)), ((0, 3), .v (p.h3.val p.rooms.length)), ((0, 4), .v (p.h4.val p.threads.length))] [6] [_] z108 z122 ⟨rfl, trivial⟩ rfl ?_
   refine d_idx (ti := tiOf tab) encInt tabOk rfl rfl rfl rfl rfl ⟨rfl, rfl⟩ (rdVia 0 rfl (.ofR (progO_groups p))) k2 rfl z38 (fun ad => ?_)
   refine BothW.mk ?_ ?_
   all_goals
     refine AllSl.mk fun u => ?_
     refine d_app (ti := tiOf tab) encGroupH 1 tabOk (ys := [⟨⟨p.groups[k2], []⟩, ⟨none, 0⟩⟩]) rfl rfl rfl rfl rfl rfl rfl rfl rfl (by decide) ⟨rfl, rfl⟩ rfl z30 z38 z38 z93 (fun c' => ?_)
     rw [e _ rfl]
     refine ⟨⟨(k2 + 1, c'), by omega⟩, ?_, by simp only; omega⟩
     exact weak_mk [0, 2, 3, 4, 5, 6, 7] zw1 zw0 zw1 zw5 zw3 rfl rfl
 have hge2 : p.groups.length ≤ k2 := by simpa using g
 have e2 : L2.take k2 = L2 := List.take_of_length_le (by omega)
 refine LoopW.mk ⟨{ q : Nat × Sl × List BarrierH // q.1 ≤ p.barriers.length ∧ q.2.2.map (·.m) = (p.barriers.map fun n => (⟨n, 0, []⟩ : Barrier)).take q.1 },
   fun q => .mk [(1, .p 0 0), (2, .p 1 0), (4, .p 2 0), (11, .v (.int .i64 (q.1.1 : Int)))] 3 0 [(0, 37, 5), (1, 30, 9), (2, 30, 9)]
     [((0, 0), .v (p.h0.val p.sems.length)), ((0, 1), .v (p.h1.val p.groups.length)), ((0, 2), .v (p.h2.val p.barriers.length)), ((0, 3), .v (p.h3.val p.rooms.length)), ((0, 4), .v (p.h4.val p.threads.length)), ((2, 0), .v (a.val LP.length)), ((2, 1), .v (s.val LS.length)), ((2, 2), .v (c0.val l0.length)), ((2, 3), .v (c1.val [onceZ, onceZ, onceZ].length)), ((2, 4), .v (c2.val L2.length)), ((2, 5), .v (q.1.2.1.val q.1.2.2.length)), ((2, 6), .v (.slice none 0 0)), ((2, 7), .v (.slice none 0 0)), ((2, 8), .v (.int .i64 0))]
     [own q.1.2.1 65 cBarrierH 3 q.1.2.2, fO (q.1.2.2.flatMap barrierO), own c2 74 cGroupH 2 L2, own c1 70 cOnceH 4 [onceZ, onceZ, onceZ], own c0 57 cSemH 3 l0, fO (l0.flatMap semO), own a 3 cInt 1 LP, own s 3 cInt 1 LS, fR (progO p)],
   fun q => p.barriers.length - q.1.1, ⟨(0, ⟨none, 0⟩, []), Nat.zero_le _, by simp⟩, ?_, ?_⟩
 · refine weak_shift (.joinO [] (Gs := []) trivial rfl (.refl _)) ?_
   refine weak_mk [99, 0, 1, 2, 3, 4, 5, 6, 7] ?_ ?_ ?_ ?_ ?_ rfl rfl
   · exact zw23
   · exact zw0
   · exact zw23
   · exact zw5
   · repeat (first | exact trivial | refine ⟨.inl ⟨_, rfl, (by first | rfl | ((first | (rw [e2]; done))))⟩, ?_⟩ | refine ⟨.inr z128, ?_⟩)
 rintro ⟨⟨k3, c3, l3⟩, hk, hl3⟩
 simp only at hk hl3
 have ln3 : l3.length = k3 := by have := congrArg List.length hl3; simp at this; omega
 apply CaseB.mk <;> intro g
 · have hlt : k3 < p.barriers.length := by simpa using g
   have hw := e_succ k3 _ hlt (by omega)
   have hv := ok.barriers.2 _ (List.getElem_mem hlt)
   refine stop_idx encInt tabOk rfl rfl rfl rfl rfl ⟨rfl, rfl⟩ (rdVia 8 rfl (.ofR (progO_barriers p))) k3 rfl z38 (fun ad => ?_)
   refine stop_call _ cl148 rfl rfl rfl rfl ⟨rfl, rfl⟩ (fun A w hW => newBarrier_c _ hv.1 hv.2 w) ?_
   rintro v L ⟨y, rfl, rfl⟩
   refine AllSl.mk fun r => ?_
   generalize hx : (⟨⟨p.barriers[k3], 0, []⟩, y⟩ : BarrierH) = x
   have hxm : x.m = ⟨p.barriers[k3], 0, []⟩ := by rw [← hx]
   refine stop_app encBarrierH 2 tabOk (ys := [x]) rfl rfl rfl rfl rfl (by rw [← hx]; rfl) rfl rfl rfl (by decide) ⟨rfl, rfl⟩ rfl (by rw [← hx]; exact rdOwnAt 0 rfl) z71 z62 (fun c' => ?_)
   refine ⟨⟨(k3 + 1, c', l3 ++ [x]), by omega, by rw [List.map_append]; exact map_take_succ hlt hl3 hxm⟩, ?_, by simp only; omega⟩
   refine weak_shift (.joinO [2, 3] (Gs := [[_], _]) z126 rfl (G := (l3 ++ [x]).flatMap barrierO) (by subst hx; rw [List.flatMap_append]; exact (List.Perm.of_eq (by simp [barrierO])).trans List.perm_append_comm)) ?_
   exact weak_mk [1, 0, 3, 4, 5, 6, 7, 8, 9] zw1 zw0 zw1 zw5 zw3 rfl rfl
 have hge3 : p.barriers.length ≤ k3 := by simpa using g
 have m3' : l3.map (·.m) = p.barriers.map fun n => (⟨n, 0, []⟩ : Barrier) := by rw [hl3, List.take_of_length_le (by simpa using hge3)]
 refine LoopW.mk ⟨{ q : Nat × Sl × List ChanH // q.1 ≤ p.rooms.length ∧ q.2.2.map (·.m) = (p.rooms.map fun n => (⟨n, [], [], [], false⟩ : Chan)).take q.1 },
   fun q => .mk [(1, .p 0 0), (2, .p 1 0), (4, .p 2 0), (14, .v (.int .i64 (q.1.1 : Int)))] 3 0 [(0, 37, 5), (1, 30, 9), (2, 30, 9)]
     [((0, 0), .v (p.h0.val p.sems.length)), ((0, 1), .v (p.h1.val p.groups.length)), ((0, 2), .v (p.h2.val p.barriers.length)), ((0, 3), .v (p.h3.val p.rooms.length)), ((0, 4), .v (p.h4.val p.threads.length)), ((2, 0), .v (a.val LP.length)), ((2, 1), .v (s.val LS.length)), ((2, 2), .v (c0.val l0.length)), ((2, 3), .v (c1.val [onceZ, onceZ, onceZ].length)), ((2, 4), .v (c2.val L2.length)), ((2, 5), .v (c3.val l3.length)), ((2, 6), .v (q.1.2.1.val q.1.2.2.length)), ((2, 7), .v (.slice none 0 0)), ((2, 8), .v (.int .i64 0))]
     [own q.1.2.1 80 cChanH 5 q.1.2.2, fO (q.1.2.2.flatMap chanO), own c3 65 cBarrierH 3 l3, fO (l3.flatMap barrierO), own c2 74 cGroupH 2 L2, own c1 70 cOnceH 4 [onceZ, onceZ, onceZ], own c0 57 cSemH 3 l0, fO (l0.flatMap semO), own a 3 cInt 1 LP, own s 3 cInt 1 LS, fR (progO p)],
   fun q => p.rooms.length - q.1.1, ⟨(0, ⟨none, 0⟩, []), Nat.zero_le _, by simp⟩, ?_, ?_⟩
 · refine weak_shift (.joinO [] (Gs := []) trivial rfl (.refl _)) ?_
   exact weak_mk [99, 0, 1, 2, 3, 4, 5, 6, 7, 8, 9] zw2 zw0 zw2 zw5 zw4 rfl rfl
 rintro ⟨⟨k4, c4, l4⟩, hk, hl4⟩
 simp only at hk hl4
 have ln4 : l4.length = k4 := by have := congrArg List.length hl4; simp at this; omega
 apply CaseB.mk <;> intro g
 · have hlt : k4 < p.rooms.length := by simpa using g
   have hw := e_succ k4 _ hlt (by omega)
   have hv := ok.rooms.2 _ (List.getElem_mem hlt)
   refine stop_idx encInt tabOk rfl rfl rfl rfl rfl ⟨rfl, rfl⟩ (rdVia 10 rfl (.ofR (progO_rooms p))) k4 rfl z38 (fun ad => ?_)
   refine stop_call _ cl149 rfl rfl rfl rfl ⟨rfl, rfl⟩ (fun A w hW => newChan_c _ hv.1 hv.2 w) ?_
   rintro v L ⟨y, z, u, rfl, rfl⟩
   refine AllSl.mk fun r => ?_
   generalize hx : (⟨⟨p.rooms[k4], [], [], [], false⟩, y, z, u⟩ : ChanH) = x
   have hxm : x.m = ⟨p.rooms[k4], [], [], [], false⟩ := by rw [← hx]
   refine stop_app encChanH 4 tabOk (ys := [x]) rfl rfl rfl rfl rfl (by rw [← hx]; rfl) rfl rfl rfl (by decide) ⟨rfl, rfl⟩ rfl (by rw [← hx]; exact rdOwnAt 0 rfl) z71 z62 (fun c' => ?_)
   refine ⟨⟨(k4 + 1, c', l4 ++ [x]), by omega, by rw [List.map_append]; exact map_take_succ hlt hl4 hxm⟩, ?_, by simp only; omega⟩
   refine weak_shift (.joinO [2, 3, 4, 5] (Gs := [[_], [_], [_], _]) z110 rfl (G := (l4 ++ [x]).flatMap chanO) (by subst hx; rw [List.flatMap_append]; exact (List.Perm.of_eq (by simp [chanO])).trans List.perm_append_comm)) ?_
   exact weak_mk [1, 0, 3, 4, 5, 6, 7, 8, 9, 10, 11] zw1 zw0 zw1 zw5 zw3 rfl rfl
 have hge4 : p.rooms.length ≤ k4 := by simpa using g
 have m4' : l4.map (·.m) = p.rooms.map fun n => (⟨n, [], [], [], false⟩ : Chan) := by rw [hl4, List.take_of_length_le (by simpa using hge4)]
 generalize hy : (⟨LP, LS, l0, [onceZ, onceZ, onceZ], L2, l3, l4, [], 0, a, s, c0, c1, c2, c3, c4, ⟨none, 0⟩⟩ : StateH) = Y
 have nil1 : ∀ g ∈ L2.flatMap groupO, nilFact g := nilOf fun x hx g hg => by
   rw [hL2] at hx; obtain ⟨n, _, rfl⟩ := List.mem_map.1 hx; simp [groupO] at hg; subst hg; exact ⟨rfl, rfl, rfl, rfl⟩
 have nil4 : ∀ g ∈ [onceZ, onceZ, onceZ].flatMap onceO, nilFact g := nilOf fun x hx g hg => by
   simp at hx; subst hx; simp [onceO, onceZ] at hg; subst hg; exact ⟨rfl, rfl, rfl, rfl⟩
 have nil5 : ∀ g ∈ [own ⟨none, 0⟩ 3 cInt 1 ([] : List Int)], nilFact g := fun g hg => by
   simp at hg; subst hg; exact ⟨rfl, rfl, rfl, rfl⟩
 refine ret_shift (.joinO [8, 9, 6, 7, 5, 90, 4, 91, 2, 3, 0, 1, 92] (Gs := [[_], [_], [_], _, [_], _, [_], _, [_], _, [_], _, _])
   ⟨.inl ⟨_, rfl, .own⟩, .inl ⟨_, rfl, .own⟩, .inl ⟨_, rfl, .own⟩, .inl ⟨_, rfl, .o⟩, .inl ⟨_, rfl, .own⟩, .inr ⟨Nat.le_of_ble_eq_true rfl, nil4⟩, .inl ⟨_, rfl, .own⟩, .inr ⟨Nat.le_of_ble_eq_true rfl, nil1⟩, .inl ⟨_, rfl, .own⟩, .inl ⟨_, rfl, .o⟩, .inl ⟨_, rfl, .own⟩, .inl ⟨_, rfl, .o⟩, .inr ⟨Nat.le_of_ble_eq_true rfl, nil5⟩, trivial⟩ rfl (G := stateO Y) (.of_eq (by rw [← hy]; simp [stateO, semsO, oncesO, groupsO, barriersO, chansO, nestO]))) ?_
 have hYp : Y.pure = start p.pure := by
   rw [← hy]
   simp only [StateH.pure, start, ProgH.pure, hLP, hLS, hL2, m0', m3', m4']
   simp [onceZ]
 exact retw [0] ⟨Y, true, by rw [← hy], tyes ok, fun _ => hYp, fun e => z98, rfl⟩ z133 rfl ⟨rfl, trivial⟩ (fun _ => rfl)
theorem within_small {xs : List Int} {lo hi : Int} (h : within xs lo hi) : xs.length ≤ 1048576 := Nat.le_trans h.1 (by decide)
theorem start_small {p : Prog} (ok : ProgOk p) : (start p).small20 := by
 have h1 := within_small ok.sems
 have h2 := within_small ok.groups
 have h3 := within_small ok.barriers
 have h4 := within_small ok.rooms
 have h5 := ok.n4
 refine ⟨by simp [start]; omega, by simp [start]; omega, ⟨by simp [start]; omega, ?_⟩, ⟨by simp [start], ?_⟩, ⟨by simp [start]; omega, ?_⟩, ⟨by simp [start]; omega, ?_⟩, ⟨by simp [start]; omega, ?_⟩, by simp [start]⟩
 · intro x hx; obtain ⟨n, _, rfl⟩ := List.mem_map.1 hx; simp [Sem.small20]
 · intro x hx; simp [start] at hx; subst hx; simp [Once.small20]
 · intro x hx; obtain ⟨n, _, rfl⟩ := List.mem_map.1 hx; simp [Group.small20]
 · intro x hx; obtain ⟨n, _, rfl⟩ := List.mem_map.1 hx; simp [Barrier.small20]
 · intro x hx; obtain ⟨n, _, rfl⟩ := List.mem_map.1 hx; simp [Chan.small20]
theorem zero_small20 : State.zero.small20 := by
 refine ⟨by simp [State.zero], by simp [State.zero], ⟨by simp [State.zero], ?_⟩, ⟨by simp [State.zero], ?_⟩, ⟨by simp [State.zero], ?_⟩, ⟨by simp [State.zero], ?_⟩, ⟨by simp [State.zero], ?_⟩, by simp [State.zero]⟩
 all_goals
   intro x hx
   simp [State.zero] at hx
theorem Started.one (p : Prog) : ∃ (S : State) (c : Bool), S.small20 ∧ ∀ (y : StateH) (b : Bool), (b = true ↔ ProgOk p) → (b = true → y.pure = start p) → (b = false → y.pure = State.zero) → y.pure = S ∧ b = c := by
 by_cases ok : ProgOk p
 · refine ⟨start p, true, start_small ok, fun y b h1 h2 _ => ?_⟩
   have := h1.2 ok
   exact ⟨h2 this, this⟩
 · refine ⟨State.zero, false, zero_small20, fun y b h1 _ h3 => ?_⟩
   cases b with
   | true => exact (ok (h1.1 rfl)).elim
   | false => exact ⟨h3 rfl, rfl⟩
theorem prog_small {a : ProgH} (h : a.pure.small20) : a.sems.length ≤ 1048576 ∧ a.groups.length ≤ 1048576 ∧ a.barriers.length ≤ 1048576 ∧ a.rooms.length ≤ 1048576 := ⟨h.1, h.2.1, h.2.2.1, h.2.2.2.1⟩
theorem OpOk.near {p : Prog} (ok : ProgOk p) {o : Op} (h : OpOk p o) : o.near := by
 obtain ⟨h1, h2, h3, h4, h5⟩ := h
 have hs : p.shared o.kind ≤ 4 := by
   have := ok.sems.1
   have := ok.groups.1
   have := ok.barriers.1
   have := ok.rooms.1
   unfold Prog.shared
   repeat' split
   all_goals omega
 have ha : -100 ≤ o.arg ∧ o.arg ≤ 1000 := by
   unfold Prog.argOk at h5
   split at h5
   · have hg : p.sems.getD o.on.toNat 0 ≤ 9 := by
       rw [List.getD_eq_getElem?_getD]
       cases e : p.sems[o.on.toNat]? with
       | none => simp
       | some x => exact (ok.sems.2 x (List.mem_of_getElem? e)).2
     omega
   · split at h5
     · omega
     · split at h5
       · simp [isValue] at h5; omega
       · omega
 exact ⟨by omega, by omega, by omega, by omega⟩
theorem within_near {l : List Int} {a b : Int} (h : within l a b) (ha : -1000 ≤ a) (hb : b ≤ 1000) : ∀ x ∈ l, nearN x := fun x hx => by
 have := h.2 x hx
 exact ⟨by omega, by omega⟩
theorem fmtOps_at {first : Bool} {out : Str} {l : List Op} {k : Nat} (h : k < l.length) : fmtOps first out (l.drop k) = fmtOps false (((if first = true then out else out ++ [44]) ++ [32]) ++ fmtOpM l[k]) (l.drop (k + 1)) := by
 rw [List.drop_eq_getElem_cons h, fmtOps]
theorem fmtThreads_at {out : Str} {l : List (List Op)} {k : Nat} (h : k < l.length) : fmtThreads out (l.drop k) = fmtThreads (fmtOps true (out ++ [116, 104, 114, 101, 97, 100]) l[k] ++ [10]) (l.drop (k + 1)) := by
 rw [List.drop_eq_getElem_cons h, fmtThreads]
set_option maxHeartbeats 16000000 in
set_option maxRecDepth 100000 in
theorem fmtProg_c (p : ProgH) (w : World) (h : At w [fR (progO p)]) (ok : ProgOk p.pure) :
   Calls Tryz.prog 164 #[progV p] w (Ret w fun v L => v = .string (bs (fmtProgM p.pure)) ∧ L = []) := by
 have s0 : p.sems.length ≤ 3 := ok.sems.1
 have s1 : p.groups.length ≤ 3 := ok.groups.1
 have s2 : p.barriers.length ≤ 3 := ok.barriers.1
 have s3 : p.rooms.length ≤ 3 := ok.rooms.1
 have lt : p.pure.threads.length = p.threads.length := by simp [ProgH.pure]
 have s4 : p.threads.length ≤ 4 := by rw [← lt]; exact ok.n4
 have q0 := listM_len [115, 101, 109, 115] p.sems
 have q1 := listM_len [103, 114, 111, 117, 112, 115] p.groups
 have q2 := listM_len [98, 97, 114, 114, 105, 101, 114, 115] p.barriers
 have q3 := listM_len [114, 111, 111, 109, 115] p.rooms
 simp only [List.length_cons, List.length_nil] at q0 q1 q2 q3
 refine calls1 Tryz.func164 rfl tabOk w _ rfl _ rfl _ h ⟨rfl, rfl, trivial⟩ _ (by decide) ?_
 refine stop_call _ cl65 rfl rfl rfl rfl ⟨rfl, rfl⟩ (fun A w hW => progValidS_c p w ⟨hW.get 0 rfl (.refl _), trivial⟩ ⟨by omega, by omega, by omega, by omega⟩) ?_
 rintro v L ⟨b0, rfl, hb0, rfl⟩
 refine CaseB.mk (fun g => by rw [hb0.2 ok] at g; cases g) (fun _ => ?_)
 refine draw_start tabOk z95 z95 z95 200 [((0, 0), .v (p.h0.val p.sems.length)), ((0, 1), .v (p.h1.val p.groups.length)), ((0, 2), .v (p.h2.val p.barriers.length)), ((0, 3), .v (p.h3.val p.rooms.length)), ((0, 4), .v (p.h4.val p.threads.length))] [] [] z108 z122 trivial rfl ?_
 refine d_call _ cl173 rfl rfl rfl rfl ⟨rfl, rfl⟩ (fun A w hW => (list_c [115, 101, 109, 115] p.h0 p.sems w ⟨hW.get 0 rfl (.ofR (progO_sems p)), trivial⟩ (by decide) (by omega) (within_near ok.sems (by decide) (by decide)))) ?_
 rintro v L ⟨rfl, rfl⟩
 refine d_call _ cl173 rfl rfl rfl rfl ⟨rfl, rfl⟩ (fun A w hW => (list_c [103, 114, 111, 117, 112, 115] p.h1 p.groups w ⟨hW.get 0 rfl (.ofR (progO_groups p)), trivial⟩ (by decide) (by omega) (within_near ok.groups (by decide) (by decide)))) ?_
 rintro v L ⟨rfl, rfl⟩
 refine d_bin rfl rfl rfl ⟨rfl, rfl⟩ (.string (bs ((listM [115, 101, 109, 115] p.sems) ++ (listM [103, 114, 111, 117, 112, 115] p.groups)))) (fun w => eqGuard_str w) (fun w => sadd_run (by omega) w) ?_
 refine d_call _ cl173 rfl rfl rfl rfl ⟨rfl, rfl⟩ (fun A w hW => (list_c [98, 97, 114, 114, 105, 101, 114, 115] p.h2 p.barriers w ⟨hW.get 0 rfl (.ofR (progO_barriers p)), trivial⟩ (by decide) (by omega) (within_near ok.barriers (by decide) (by decide)))) ?_
 rintro v L ⟨rfl, rfl⟩
 refine d_bin rfl rfl rfl ⟨rfl, rfl⟩ (.string (bs ((listM [115, 101, 109, 115] p.sems ++ listM [103, 114, 111, 117, 112, 115] p.groups) ++ (listM [98, 97, 114, 114, 105, 101, 114, 115] p.barriers)))) (fun w => eqGuard_str w) (fun w => sadd_run (by simp only [List.length_append]; omega) w) ?_
 refine d_call _ cl173 rfl rfl rfl rfl ⟨rfl, rfl⟩ (fun A w hW => (list_c [114, 111, 111, 109, 115] p.h3 p.rooms w ⟨hW.get 0 rfl (.ofR (progO_rooms p)), trivial⟩ (by decide) (by omega) (within_near ok.rooms (by decide) (by decide)))) ?_
 rintro v L ⟨rfl, rfl⟩
 refine d_bin rfl rfl rfl ⟨rfl, rfl⟩ (.string (bs (((listM [115, 101, 109, 115] p.sems ++ listM [103, 114, 111, 117, 112, 115] p.groups) ++ listM [98, 97, 114, 114, 105, 101, 114, 115] p.barriers) ++ (listM [114, 111, 111, 109, 115] p.rooms)))) (fun w => eqGuard_str w) (fun w => sadd_run (by simp only [List.length_append]; omega) w) ?_
 have hF : fmtProgM p.pure = fmtThreads (((listM [115, 101, 109, 115] p.sems ++ listM [103, 114, 111, 117, 112, 115] p.groups) ++ listM [98, 97, 114, 114, 105, 101, 114, 115] p.barriers) ++ listM [114, 111, 111, 109, 115] p.rooms) p.pure.threads := rfl
 rw [hF]
 have hol : ((((listM [115, 101, 109, 115] p.sems ++ listM [103, 114, 111, 117, 112, 115] p.groups) ++ listM [98, 97, 114, 114, 105, 101, 114, 115] p.barriers) ++ listM [114, 111, 111, 109, 115] p.rooms)).length ≤ 1000 := by simp only [List.length_append]; omega
 clear hF q0 q1 q2 q3
 generalize (((listM [115, 101, 109, 115] p.sems ++ listM [103, 114, 111, 117, 112, 115] p.groups) ++ listM [98, 97, 114, 114, 105, 101, 114, 115] p.barriers) ++ listM [114, 111, 111, 109, 115] p.rooms) = o1 at hol ⊢
 refine LoopW.mk ⟨{ q : Nat × Str // q.1 ≤ p.threads.length ∧ fmtThreads o1 p.pure.threads = fmtThreads q.2 (p.pure.threads.drop q.1) ∧ q.2.length ≤ 1000 + 1000 * q.1 },
   fun q => .mk [(1, .p 0 0), (3, .v (.string (bs q.1.2))), (4, .v (.int .i64 (q.1.1 : Int)))] 1 0 [(0, 37, 5)] [((0, 4), .v (p.h4.val p.threads.length))] [fR (progO p)],
   fun q => p.threads.length - q.1.1, ⟨(0, o1), Nat.zero_le _, rfl, by simpa using hol⟩, ?_, ?_⟩
 · exact weak_mk [0] zw2 zw0 zw2 zw5 zw4 rfl rfl
 rintro ⟨⟨i, out⟩, i1, i2, i3⟩
 simp only at i1 i2 i3 ⊢
 apply CaseB.mk <;> intro g
 · have hlt : i < p.threads.length := by have := of_decide_eq_true g; omega
   have hlt2 : i < p.pure.threads.length := by omega
   have hw := e_succ i _ hlt (by omega)
   have ht : p.pure.threads[i] = (p.threads[i]).m := by simp [ProgH.pure]
   have hopk := ok.ops _ (List.getElem_mem hlt2)
   rw [ht] at hopk
   rw [fmtThreads_at hlt2, ht] at i2
   refine stop_bin rfl rfl rfl ⟨rfl, rfl⟩ (.string (bs (out ++ [116, 104, 114, 101, 97, 100]))) (fun w => eqGuard_str w) (fun w => sadd_run z71 w) ?_
   obtain ⟨ops, hops⟩ : ∃ ops, ops = (p.threads[i]).m := ⟨_, rfl⟩
   rw [← hops] at hopk i2
   refine LoopW.mk ⟨{ q : Nat × Str // q.1 ≤ ops.length ∧ fmtOps true (out ++ [116, 104, 114, 101, 97, 100]) ops = fmtOps (decide (q.1 = 0)) q.2 (ops.drop q.1) ∧ q.2.length ≤ out.length + 6 + 62 * q.1 },
     fun q => .mk [(1, .p 0 0), (3, .v (.string (bs q.1.2))), (4, .v (.int .i64 (i : Int))), (5, .v (.int .i64 (q.1.1 : Int)))] 1 0 [(0, 37, 5)] [((0, 4), .v (p.h4.val p.threads.length))] [fR (progO p)],
     fun q => ops.length - q.1.1, ⟨(0, out ++ [116, 104, 114, 101, 97, 100]), Nat.zero_le _, rfl, by simp⟩, ?_, ?_⟩
   · exact weak_mk [0] zw2 zw0 zw2 zw5 zw4 rfl rfl
   rintro ⟨⟨k, o2⟩, k1, k2, k3⟩
   simp only at k1 k2 k3 ⊢
   subst hops
   refine stop_idx encOpSH tabOk rfl rfl rfl rfl rfl ⟨rfl, rfl⟩ (rdVia 0 rfl (.trans (.R_R (progO_threads p)) (.ofR nest_h))) i rfl z38 (fun ad => ?_)
   refine CaseB.mk (fun g2 => ?_) (fun g2 => ?_)
   · have hkl : k < (p.threads[i]).m.length := by have := of_decide_eq_true g2; omega
     have hw2 := e_succ k _ hkl (by omega)
     have hne := OpOk.near ok (hopk.2 _ (List.getElem_mem hkl))
     have hfl := fmtOpM_len ((p.threads[i]).m[k])
     rw [fmtOps_at hkl] at k2
     refine CaseB.mk (fun g3 => ?_) (fun g3 => ?_)
     · have hk0 : ¬ k = 0 := by have := of_decide_eq_true g3; omega
       rw [decide_eq_false hk0, if_neg (by decide)] at k2
       refine stop_bin rfl rfl rfl ⟨rfl, rfl⟩ (.string (bs (o2 ++ [44]))) (fun w => eqGuard_str w) (fun w => sadd_run z71 w) ?_
       refine stop_bin rfl rfl rfl ⟨rfl, rfl⟩ (.string (bs ((o2 ++ [44]) ++ [32]))) (fun w => eqGuard_str w) (fun w => sadd_run z52 w) ?_
       refine stop_idx encOpSH tabOk rfl rfl rfl rfl rfl ⟨rfl, rfl⟩ (rdVia 0 rfl (.trans (.R_R (progO_threads p)) (.ofR nest_h))) i rfl z38 (fun ad2 => ?_)
       refine stop_idx encOp tabOk rfl rfl rfl rfl rfl ⟨rfl, rfl⟩ (rdVia 0 rfl (.trans (.R_R (progO_threads p)) (.ofR (threadsO_0 _ _ i hlt)))) k rfl hkl (fun ad3 => ?_)
       refine stop_call _ cl174 rfl rfl rfl rfl ⟨rfl, rfl⟩ (fun A w hW => (fmtOp_c _ w hne)) ?_
       rintro v L ⟨rfl, rfl⟩
       refine stop_bin rfl rfl rfl ⟨rfl, rfl⟩ (.string (bs (((o2 ++ [44]) ++ [32]) ++ (fmtOpM ((p.threads[i]).m[k]))))) (fun w => eqGuard_str w) (fun w => sadd_run z52 w) ?_
       refine ⟨⟨(k + 1, ((o2 ++ [44]) ++ [32]) ++ fmtOpM ((p.threads[i]).m[k])), hkl, by rw [decide_eq_false (by omega)]; exact k2, by simp only [List.length_append, List.length_cons, List.length_nil]; omega⟩, ?_, by simp only; omega⟩
       exact weak_mk [0] zw8 zw0 zw8 zw5 zw18 rfl rfl
     have hk0 : k = 0 := by have := of_decide_eq_false g3; omega
     rw [decide_eq_true hk0, if_pos rfl] at k2
     refine stop_bin rfl rfl rfl ⟨rfl, rfl⟩ (.string (bs (o2 ++ [32]))) (fun w => eqGuard_str w) (fun w => sadd_run z52 w) ?_
     refine stop_idx encOpSH tabOk rfl rfl rfl rfl rfl ⟨rfl, rfl⟩ (rdVia 0 rfl (.trans (.R_R (progO_threads p)) (.ofR nest_h))) i rfl z38 (fun ad2 => ?_)
     refine stop_idx encOp tabOk rfl rfl rfl rfl rfl ⟨rfl, rfl⟩ (rdVia 0 rfl (.trans (.R_R (progO_threads p)) (.ofR (threadsO_0 _ _ i hlt)))) k rfl hkl (fun ad3 => ?_)
     refine stop_call _ cl174 rfl rfl rfl rfl ⟨rfl, rfl⟩ (fun A w hW => (fmtOp_c _ w hne)) ?_
     rintro v L ⟨rfl, rfl⟩
     refine stop_bin rfl rfl rfl ⟨rfl, rfl⟩ (.string (bs ((o2 ++ [32]) ++ (fmtOpM ((p.threads[i]).m[k]))))) (fun w => eqGuard_str w) (fun w => sadd_run z52 w) ?_
     refine ⟨⟨(k + 1, (o2 ++ [32]) ++ fmtOpM ((p.threads[i]).m[k])), hkl, by rw [decide_eq_false (by omega)]; exact k2, by simp only [List.length_append, List.length_cons, List.length_nil]; omega⟩, ?_, by simp only; omega⟩
     exact weak_mk [0] zw8 zw0 zw8 zw5 zw18 rfl rfl
   have hge : (p.threads[i]).m.length ≤ k := by have := of_decide_eq_false g2; omega
   rw [List.drop_eq_nil_of_le hge, fmtOps] at k2
   rw [k2] at i2
   refine stop_bin rfl rfl rfl ⟨rfl, rfl⟩ (.string (bs (o2 ++ [10]))) (fun w => eqGuard_str w) (fun w => sadd_run z52 w) ?_
   refine ⟨⟨(i + 1, o2 ++ [10]), hlt, i2, by simp only [List.length_append, List.length_cons, List.length_nil]; omega⟩, ?_, by simp only; omega⟩
   exact weak_mk [0] zw1 zw0 zw1 zw5 zw3 rfl rfl
 have hge : p.pure.threads.length ≤ i := by have := of_decide_eq_false g; omega
 rw [List.drop_eq_nil_of_le hge, fmtThreads] at i2
 rw [i2]
 exact ret0 ⟨rfl, rfl⟩ (fun _ => rfl)
end Go.Proofs.YtjkkoonennpceaaGreat
namespace Go.Sx
open Go Go.RowKit
section
variable {P : Program} {f : FuncId} {fn : Func} {x : Code} {R : Ending → World → Prop} {ti : Nat → TI}
theorem callsPGc_fn (hf : P.funcs[f]? = some fn) (hb : fn.body = some x) (hti : ∀ t, TIok P t (ti t)) (w : World) (N : Nat) (hN : fn.ntmps = N) (rs : List ResultVar) (hrs : fn.results.toList = rs) (g : Nat) (ty : TypeId) (cs : List Value) (sz : Nat) (hsz : listLen cs = sz) (hg : Blk w g ty cs) (G Fo : List Fct) (hF : AtG w G Fo) (hoff : ∀ f ∈ G ++ Fo, ∀ b, f.foot b → b ≠ g) (ho : initOk Fo)
   (l : List Value) (args : Array Value) (ha : args.toList = l ++ [.pointer (some ⟨g, 0, none⟩)]) (hl : Nat.ble (l.length + 1) N = true)
   (hv : vcCode (mkEnvPG P w N g G) ti x (bodyK (mkEnvPG P w N g G) ti rs R) (.mk (initT 0 (l.map .v ++ [.p 0 0])) 1 0 [(0, ty, sz)] (storeL 0 0 (cs.map .v) []) (G ++ Fo))) : Calls P f args w R := by
 subst hN; subst hrs
 rw [listLen_eq] at hsz
 subst hsz
 exact calls_sx hf hb (mkEnvPG P w fn.ntmps g G) rfl rfl hti (l.map .v ++ [.p 0 0]) 1 [(0, ty, cs.length)] (storeL 0 0 (cs.map .v) []) (G ++ Fo) (A := fun _ => g) z54
   (fun s hs => by
     rcases List.mem_append.1 hs with hs | hs
     · obtain ⟨u, _, rfl⟩ := List.mem_map.1 hs; trivial
     · obtain rfl := List.mem_singleton.1 hs; exact Nat.zero_lt_one) z76 (WD.initPG P w _ _ _ _ hg hF hoff ho) hv
end
theorem map_erase {α β : Type} (f : α → β) : ∀ (l : List α) (j : Nat), (l.eraseIdx j).map f = (l.map f).eraseIdx j
 | [], _ => rfl
 | x :: r, 0 => rfl
 | x :: r, j + 1 => by simp [map_erase f r j]
theorem small1 {n k o : Nat} (h : Nat.blt k n = true) : ∀ x ∈ [(k, o)], x.1 < n := fun x hx => by
 obtain rfl := List.mem_singleton.1 hx
 simpa using h
def adel {β : Type} : List (Int × β) → Int → List (Int × β)
 | [], _ => []
 | (k, u) :: r, x => if k = x then r else (k, u) :: adel r x
theorem adel_some {β : Type} : ∀ {ps : List (Int × β)} {x : Int} {j : Nat} {u : β}, aidx ps x = some (j, u) → adel ps x = ps.eraseIdx j
 | [], x, j, u, h => by simp [aidx] at h
 | (k, q) :: r, x, j, u, h => by
   simp only [aidx] at h
   by_cases e : k = x
   · simp [e] at h
     obtain ⟨rfl, rfl⟩ := h
     simp [adel, e]
   · simp only [e, if_false, Option.map_eq_some_iff, Prod.mk.injEq] at h
     obtain ⟨p, h1, rfl, rfl⟩ := h
     simp [adel, e, adel_some (j := p.1) (u := p.2) h1]
theorem adel_none {β : Type} : ∀ {ps : List (Int × β)} {x : Int}, aidx ps x = none → adel ps x = ps
 | [], x, _ => rfl
 | (k, q) :: r, x, h => by
   simp only [aidx] at h
   by_cases e : k = x
   · simp [e] at h
   · simp only [e, if_false, Option.map_eq_none_iff] at h
     simp [adel, e, adel_none h]
section
variable {E : Env} {ti : Nat → TI} {A : Nat → Nat} {T : List (Nat × SV)} {n c : Nat} {B : List (Nat × TypeId × Nat)} {M Ms : List ((Nat × Nat) × SV)} {F Fs : List Fct} {o : Oper} {next : St → Prop} {a : Act} {w w' : World}
theorem stop_callPGc (R : Value → List Value → List Fct → Prop) (ix : List Nat) {G : List Fct} {k : Call} {fo : Operand} {g : FuncId} {l : List SV} {d kb ty sz : Nat} {cs : List Value} (hc : callable E.P g = true)
   (hop : o.op = .call k) (hk : k.callee = .value fo) (hf : evalO T fo = some (.f g [(kb, 0)])) (ha : evalOs T k.args.toList = some l) (hd : Dst E o d) (hB : lookBT B kb = some (ty, sz)) (hM : loadN M kb 0 sz = some cs) (hG : FK F ix G) (hok : grantOk G)
   (hcall : ∀ A w ga, ga = A kb → WD E A n B M F w → Blk w ga ty cs → Calls E.P g ((l.map (SV.den A)) ++ [Value.pointer (some ⟨ga, 0, none⟩)]).toArray w (RetPG w ga ty sz G R))
   (hnext : ∀ v cs L, R v cs L → storeK kb 0 (cs.map .v) M fun M' => next (.mk ((d, .v v) :: T) n (c + 1) B M' (L ++ dropAt ix 0 F))) :
   OpW (opStop E o next T n c B M F) := by
 refine ⟨fun A a w hW hT => ?_⟩
 unfold Oper.wp
 rw [call_enter hT hc hop hk hf ha, Oper.upon_enter]
 refine (hcall A w (A kb) rfl hW (hW.blk (lookBT_mem hB) hM).1).mono ?_
 rintro e w' ⟨v, cs', L, rfl, he, hb, hl, hL, hoff, hR⟩
 have hn := hnext v cs' L hR
 rw [storeK_eq] at hn
 refine ⟨_, ⟨_, hW.callPG (lookBT_mem hB) hG hok he hb hl hL, ?_⟩, hn⟩
 rw [hd.1]
 exact (hT.step w').put (v := .v v) hd.lt trivial
theorem lookup_run {β : Type} {venc : β → Value} (hW : WD E A n B M F w) (hT : TD E A T n c a w) (k1 : Nat) {t kt et : TypeId} {x y : Operand} {r : Nat} {q : Int} {ps : List (Int × β)} {z : Value} {qk : IntKind}
   (hop : o.op = .lookup t x y false) (hx : evalO T x = some (.v (.map (some r)))) (hy : evalO T y = some (.v (.int .i64 q))) (hF : F[k1]? = some (fMap r venc ps))
   (ht : E.P.underlying t = some (.map kt et)) (hkt : E.P.underlying kt = some (.int qk)) (hz : (E.P.info? et).bind (·.zero) = some z) :
   (execOp a.eval o).run E.P w = .ok (.value (match aget ps q with | some v => venc v | none => z)) w := by
 obtain ⟨es, clock, h1, h2⟩ := (hW.nth k1 hF).1
 have hx' := (evalO_sound hT hx).1
 have hy' := (evalO_sound hT hy).1
 simp only [SV.den] at hx' hy'
 rw [aget_idx]
 simp only [execOp, hop, hx', hy', Instr.lookup, Sem.run_bind, underlying, run_program, Result.andThen_ok, ht, Sem.run_pure, run_getObj_map' h1, run_checkKey_int hkt, run_findKey_int hkt venc q es ps h2]
 cases aidx ps q with
 | none =>
   cases hi : E.P.info? et with
   | none => rw [hi] at hz; simp at hz
   | some i =>
     rw [hi] at hz
     simp at hz
     simp [zeroValue, typeInfo, hi, hz]
 | some p => simp
theorem d_lookup {β : Type} {venc : β → Value} (k1 : Nat) {t kt et : TypeId} {x y : Operand} {r : Nat} {q : Int} {ps : List (Int × β)} {d : Nat} {z : Value} {qk : IntKind}
   (hop : o.op = .lookup t x y false) (hx : evalO T x = some (.v (.map (some r)))) (hy : evalO T y = some (.v (.int .i64 q))) (hF : F[k1]? = some (fMap r venc ps)) (hd : Dst E o d)
   (ht : E.P.underlying t = some (.map kt et)) (hkt : E.P.underlying kt = some (.int qk)) (hz : (E.P.info? et).bind (·.zero) = some z) (rv : Value) (hrv : (match aget ps q with | some v => venc v | none => z) = rv)
   (hnext : next (.mk ((d, .v rv) :: T) n (c + 1) B M F)) : OpW (opD E o Ms Fs next T n c B M F) := by
 subst hrv
 refine ⟨opD0.up fun hkf A a w hW hT => ?_⟩
 refine upon_of_value (lookup_run hW hT k1 hop hx hy hF ht hkt hz) ?_
 rw [hd.1]
 exact ⟨_, _, F, hW, fun w2 => (hT.step w2).put (v := .v _) hd.lt trivial, hkf, hnext⟩
theorem mapset_run {β : Type} {venc : β → Value} (hW : WD E A n B M F w) (hT : TD E A T n c a w) (k1 : Nat) (v : β) {t kt et : TypeId} {x y z : Operand} {r : Nat} {q : Int} {ps : List (Int × β)} {qk : IntKind} {s : SV}
   (hop : o.op = .mapUpdate t x y z) (hx : evalO T x = some (.v (.map (some r)))) (hy : evalO T y = some (.v (.int .i64 q))) (hz : evalO T z = some s) (hs : ∀ A, s.den A = venc v) (hF : F[k1]? = some (fMap r venc ps))
   (ht : E.P.underlying t = some (.map kt et)) (hkt : E.P.underlying kt = some (.int qk)) :
   ∃ ob, (execOp a.eval o).run E.P w = .ok .skip { w with heap := w.heap.setIfInBounds r ob } ∧ mapIs r venc (aset ps q v) { w with heap := w.heap.setIfInBounds r ob } := by
 obtain ⟨es, clock, h1, h2⟩ := (hW.nth k1 hF).1
 have hx' := (evalO_sound hT hx).1
 have hy' := (evalO_sound hT hy).1
 have hz' := (evalO_sound hT hz).1.trans (hs A)
 simp only [SV.den] at hx' hy'
 have hlt : r < w.heap.size := (Array.getElem?_eq_some_iff.1 h1).1
 cases hi : aidx ps q with
 | none =>
   refine ⟨.map (es.push { key := .int .i64 q, val := venc v, born := clock }) (clock + 1), ?_, ?_⟩
   · simp only [execOp, hop, hx', hy', hz', Instr.mapUpdate, Sem.run_bind, underlying, run_program, Result.andThen_ok, ht, Sem.run_pure, run_getObj_map' h1, run_checkKey_int hkt, run_findKey_int hkt venc q es ps h2, hi, Option.map_none, run_setObj_map' h1]
   · refine ⟨es.push { key := .int .i64 q, val := venc v, born := clock }, clock + 1, by simp [hlt], ?_⟩
     rw [aset_none v hi]
     simp only [prs, Array.toList_push, List.map_append, kv] at h2 ⊢
     rw [h2]; rfl
 | some p =>
   obtain ⟨j, u⟩ := p
   obtain ⟨g1, g2⟩ := aset_some v hi
   have hkey : (es[j]?).map (·.key) = some (.int .i64 q) := by
     have := congrArg (fun l => l[j]?) h2
     simp only [prs, kv, List.getElem?_map, g2, Option.map_some, Array.getElem?_toList] at this
     cases he : es[j]? with
     | none => rw [he] at this; simp at this
     | some e => rw [he] at this; simp at this; simp [this.1]
   refine ⟨.map (es.modify j fun e => { e with key := .int .i64 q, val := venc v }) clock, ?_, ?_⟩
   · have hks : (Instr.keyThatStays (.int .i64 q) (.int .i64 q)).run E.P w = .ok (.int .i64 q) w := by
       have hsb : Instr.sameBits 10000 (.int .i64 q) (.int .i64 q) = true := by
         show Instr.sameBits (9999 + 1) (.int .i64 q) (.int .i64 q) = true
         simp [Instr.sameBits]
       simp [Instr.keyThatStays, hsb]
     simp only [execOp, hop, hx', hy', hz', Instr.mapUpdate, Sem.run_bind, underlying, run_program, Result.andThen_ok, ht, Sem.run_pure, run_getObj_map' h1, run_checkKey_int hkt, run_findKey_int hkt venc q es ps h2, hi, Option.map_some, hkey, Option.getD_some, hks, run_setObj_map' h1]
   · refine ⟨es.modify j fun e => { e with key := .int .i64 q, val := venc v }, clock, by simp [hlt], ?_⟩
     rw [g1]
     simp only [prs, kv, Array.toList_modify, List.map_set] at h2 ⊢
     rw [← h2]
     apply List.ext_getElem?
     intro k
     simp only [List.getElem?_map, List.getElem?_modify, List.getElem?_set]
     by_cases e : j = k
     · subst e
       simp only [if_true]
       cases he : es.toList[j]? with
       | none =>
         have : es[j]? = none := by simpa using he
         rw [this] at hkey; simp at hkey
       | some x =>
         have hl : j < es.size := by simpa using (List.getElem?_eq_some_iff.1 he).1
         simp [hl]
     · simp [e]
theorem d_mapset {β : Type} {venc : β → Value} (k1 : Nat) (v : β) {t kt et : TypeId} {x y z : Operand} {r : Nat} {q : Int} {ps : List (Int × β)} {qk : IntKind} {s : SV}
   (hop : o.op = .mapUpdate t x y z) (hx : evalO T x = some (.v (.map (some r)))) (hy : evalO T y = some (.v (.int .i64 q))) (hz : evalO T z = some s) (hs : ∀ A, s.den A = venc v) (hF : F[k1]? = some (fMap r venc ps)) (hd : o.dst = none)
   (ht : E.P.underlying t = some (.map kt et)) (hkt : E.P.underlying kt = some (.int qk)) (qs : List (Int × β)) (hqs : aset ps q v = qs) (hkeep : keepF Fs F → keepF Fs (F.eraseIdx k1))
   (hnext : next (.mk T n (c + 1) B M (fMap r venc qs :: F.eraseIdx k1))) : OpW (opD E o Ms Fs next T n c B M F) := by
 subst hqs
 refine ⟨fun hm hf A a w hW hT => ?_⟩
 obtain ⟨ob, h3, h4⟩ := mapset_run hW hT k1 v hop hx hy hz hs hF ht hkt
 refine upon_of_skip h3 ?_
 rw [hd]
 exact ⟨A, _, n, _, B, M, _, fun _ _ => rfl, Nat.le_refl _, fun _ h => h, hm, fun f hfs => List.mem_cons_of_mem _ (hkeep hf f hfs), hW.turnMap hF ob h4, fun w2 => hT.step w2, hnext⟩
theorem stop_delete {β : Type} {venc : β → Value} (k1 : Nat) {k : Call} {t tk kt et : TypeId} {x y : Operand} {r : Nat} {q : Int} {ps : List (Int × β)} {qk : IntKind}
   (hop : o.op = .call k) (hk : k.callee = .builtin .delete) (ha : k.args.toList = [x, y]) (hty : k.argTypes.toList = [t, tk])
   (hx : evalO T x = some (.v (.map (some r)))) (hy : evalO T y = some (.v (.int .i64 q))) (hF : F[k1]? = some (fMap r venc ps)) (hd : o.dst = none)
   (ht : E.P.underlying t = some (.map kt et)) (hkt : E.P.underlying kt = some (.int qk)) (qs : List (Int × β)) (hqs : adel ps q = qs)
   (hnext : next (.mk T n (c + 1) B M (fMap r venc qs :: F.eraseIdx k1))) : OpW (opStop E o next T n c B M F) := by
 subst hqs
 refine ⟨fun A a w hW hT => ?_⟩
 obtain ⟨es, clock, h1, h2⟩ := (hW.nth k1 hF).1
 have hx' := (evalO_sound hT hx).1
 have hy' := (evalO_sound hT hy).1
 simp only [SV.den] at hx' hy'
 have hlt : r < w.heap.size := (Array.getElem?_eq_some_iff.1 h1).1
 have hargs : k.args = #[x, y] := by apply Array.ext'; simpa using ha
 have htys : k.argTypes = #[t, tk] := by apply Array.ext'; simpa using hty
 have key : ∃ ob, (Builtin.delete_ #[t, tk] o.type #[.map (some r), .int .i64 q]).run E.P w = .ok (.tuple #[]) { w with heap := w.heap.setIfInBounds r ob } ∧ mapIs r venc (adel ps q) { w with heap := w.heap.setIfInBounds r ob } := by
   cases hi : aidx ps q with
   | none =>
     refine ⟨.map es clock, ?_, ⟨es, clock, by simp [hlt], by rw [adel_none hi]; exact h2⟩⟩
     simp [Builtin.delete_, underlying, ht, run_getObj_map' h1, run_checkKey_int hkt, run_findKey_int hkt venc q es ps h2, hi, run_setObj_map' h1]
   | some p =>
     obtain ⟨j, u⟩ := p
     refine ⟨.map (es.eraseIdxIfInBounds j) clock, ?_, ⟨es.eraseIdxIfInBounds j, clock, by simp [hlt], ?_⟩⟩
     · simp [Builtin.delete_, underlying, ht, run_getObj_map' h1, run_checkKey_int hkt, run_findKey_int hkt venc q es ps h2, hi, run_setObj_map' h1]
     · rw [adel_some hi]
       simp only [prs, kv] at h2 ⊢
       rw [Array.toList_eraseIdxIfInBounds, map_erase, h2, map_erase]
 obtain ⟨ob, h3, h4⟩ := key
 have hr : (execOp a.eval o).run E.P w = .ok (.value (.tuple #[])) { w with heap := w.heap.setIfInBounds r ob } := by
   simp only [execOp, hop, resolve, hk, hargs, htys, Sem.run_bind, Sem.run_pure, Result.andThen_ok, invoke, builtin, List.map_toArray, List.map_cons, List.map_nil, hx', hy', h3]
 refine upon_of_value hr ?_
 rw [hd]
 exact ⟨_, ⟨_, hW.turnMap hF ob h4, hT.step _⟩, hnext⟩
theorem stop_lenM {β : Type} {venc : β → Value} (k1 : Nat) {k : Call} {t kt et : TypeId} {x : Operand} {r : Nat} {ps : List (Int × β)} {d : Nat}
   (hop : o.op = .call k) (hk : k.callee = .builtin .len) (ha : k.args.toList = [x]) (hty : k.argTypes.toList = [t])
   (hx : evalO T x = some (.v (.map (some r)))) (hF : F[k1]? = some (fMap r venc ps)) (hd : Dst E o d) (ht : E.P.underlying t = some (.map kt et))
   (hnext : next (.mk ((d, .v (.int .i64 (ps.length : Int))) :: T) n c B M F)) : OpW (opStop E o next T n c B M F) := by
 refine ⟨fun A a w hW hT => ?_⟩
 obtain ⟨es, clock, h1, h2⟩ := (hW.nth k1 hF).1
 have hx' := (evalO_sound hT hx).1
 simp only [SV.den] at hx'
 have hargs : k.args = #[x] := by apply Array.ext'; simpa using ha
 have htys : k.argTypes = #[t] := by apply Array.ext'; simpa using hty
 have hl : es.size = ps.length := by have := congrArg List.length h2; simpa [prs, kv] using this
 have hr : (execOp a.eval o).run E.P w = .ok (.value (.int .i64 (ps.length : Int))) w := by
   simp [execOp, hop, resolve, hk, hargs, htys, invoke, builtin, hx', Builtin.len_, underlying, ht, run_getObj_map' h1, hl, goInt]
 refine upon_of_value hr ?_
 rw [hd.1]
 exact ⟨_, ⟨_, hW, hT.put (v := .v (.int .i64 (ps.length : Int))) hd.lt trivial⟩, hnext⟩
end
end Go.Sx
namespace Go.Proofs.YtjkkoonennpceaaGreat
open Go Go.Sx Go.RowKit
structure Waiting where
 kind : Int
 on : Int
 arg : Int
 deriving DecidableEq
def cWait (l : Waiting) : List Value := [.int .i64 l.kind, .int .i64 l.on, .int .i64 l.arg]
theorem encWait : Enc cWait 3 := ⟨fun _ => rfl, fun _ u hu => by simp [cWait] at hu; rcases hu with rfl | rfl | rfl <;> rfl⟩
structure LH (β : Type) where
 q : Sl
 xs : List β
def LH.nil {β : Type} : LH β := ⟨⟨none, 0⟩, []⟩
def venH {β : Type} (h : LH β) : Value := h.q.val h.xs.length
def rowsM {β : Type} (ty : TypeId) (enc : β → List Value) (sz : Nat) (ps : List (Int × LH β)) : List Fct := ps.flatMap fun p => [own p.2.q ty enc sz p.2.xs]
def pm {β : Type} (ps : List (Int × LH β)) : List (Int × List β) := ps.map fun p => (p.1, p.2.xs)
def addM {β : Type} (m : List (Int × List β)) (e : Int × β) : List (Int × List β) := aset m e.1 ((aget m e.1).getD [] ++ [e.2])
def mapOf {β : Type} (es : List (Int × β)) : List (Int × List β) := es.foldl addM []
theorem mapOf_snoc {β : Type} (es : List (Int × β)) (e : Int × β) : mapOf (es ++ [e]) = addM (mapOf es) e := by simp [mapOf]
theorem pm_aget {β : Type} (ps : List (Int × LH β)) (t : Int) : aget (pm ps) t = (aget ps t).map (·.xs) := by
 induction ps with
 | nil => rfl
 | cons p r ih =>
   obtain ⟨k, h⟩ := p
   show (if k = t then some h.xs else aget (pm r) t) = (if k = t then some h else aget r t).map (·.xs)
   by_cases e : k = t
   · simp [e]
   · simp [e, ih]
theorem pm_aset {β : Type} (ps : List (Int × LH β)) (t : Int) (h : LH β) : pm (aset ps t h) = aset (pm ps) t h.xs := by
 induction ps with
 | nil => rfl
 | cons p r ih =>
   obtain ⟨k, u⟩ := p
   show pm (if k = t then (k, h) :: r else (k, u) :: aset r t h) = (if k = t then (k, h.xs) :: pm r else (k, u.xs) :: aset (pm r) t h.xs)
   by_cases e : k = t
   · simp [e, pm]
   · rw [if_neg e, if_neg e]
     show (k, u.xs) :: pm (aset r t h) = _
     rw [ih]
theorem pm_add {β : Type} (ps : List (Int × LH β)) (t : Int) (w : β) (y : Sl) : pm (aset ps t ⟨y, ((aget ps t).getD LH.nil).xs ++ [w]⟩) = addM (pm ps) (t, w) := by
 rw [pm_aset, addM, pm_aget]
 cases aget ps t <;> rfl
theorem rows_perm_some {β : Type} {ty : TypeId} {enc : β → List Value} {sz : Nat} : ∀ {ps : List (Int × LH β)} {t : Int} {h : LH β}, aget ps t = some h → (rowsM ty enc sz ps).Perm ([own h.q ty enc sz h.xs] ++ rowsM ty enc sz (adel ps t))
 | [], t, h, e => by simp [aget] at e
 | (k, u) :: r, t, h, e => by
   simp only [aget] at e
   by_cases hk : k = t
   · simp only [hk, if_true, Option.some.injEq] at e
     subst e
     rw [show adel ((k, u) :: r) t = r from by simp [adel, hk]]
     exact .refl _
   · simp only [hk, if_false] at e
     rw [show adel ((k, u) :: r) t = (k, u) :: adel r t from by simp [adel, hk]]
     have ih := rows_perm_some (ty := ty) (enc := enc) (sz := sz) e
     show (own u.q ty enc sz u.xs :: rowsM ty enc sz r).Perm (own h.q ty enc sz h.xs :: own u.q ty enc sz u.xs :: rowsM ty enc sz (adel r t))
     exact (List.Perm.cons _ ih).trans (List.Perm.swap _ _ _)
theorem adel_of_none {β : Type} : ∀ {ps : List (Int × β)} {t : Int}, aget ps t = none → adel ps t = ps
 | [], _, _ => rfl
 | (k, u) :: r, t, e => by
   simp only [aget] at e
   by_cases hk : k = t
   · simp [hk] at e
   · simp only [hk, if_false] at e
     simp [adel, hk, adel_of_none e]
theorem rows_perm_set {β : Type} {ty : TypeId} {enc : β → List Value} {sz : Nat} (t : Int) (h : LH β) : ∀ (ps : List (Int × LH β)), ([own h.q ty enc sz h.xs] ++ rowsM ty enc sz (adel ps t)).Perm (rowsM ty enc sz (aset ps t h))
 | [] => .refl _
 | (k, u) :: r => by
   by_cases hk : k = t
   · rw [show adel ((k, u) :: r) t = r from by simp [adel, hk], show aset ((k, u) :: r) t h = (k, h) :: r from by simp [aset, hk]]
     exact .refl _
   · rw [show adel ((k, u) :: r) t = (k, u) :: adel r t from by simp [adel, hk], show aset ((k, u) :: r) t h = (k, u) :: aset r t h from by simp [aset, hk]]
     show (own h.q ty enc sz h.xs :: own u.q ty enc sz u.xs :: rowsM ty enc sz (adel r t)).Perm (own u.q ty enc sz u.xs :: rowsM ty enc sz (aset r t h))
     exact (List.Perm.swap _ _ _).trans (List.Perm.cons _ (rows_perm_set t h r))
theorem Shift.rowOut {FF : List Fct} {β : Type} {ty : TypeId} {enc : β → List Value} {sz : Nat} (k : Nat) {ps : List (Int × LH β)} (t : Int) (hk : FF[k]? = some (fO (rowsM ty enc sz ps))) :
   Shift FF (own ((aget ps t).getD LH.nil).q ty enc sz ((aget ps t).getD LH.nil).xs :: fO (rowsM ty enc sz (adel ps t)) :: FF.eraseIdx k) := by
 cases h : aget ps t with
 | some u => exact Shift.splitO k (L := [own u.q ty enc sz u.xs]) hk (rows_perm_some h)
 | none =>
   rw [adel_of_none h]
   intro E A n B M w hW
   have h1 := Shift.splitO k (L := []) (G' := rowsM ty enc sz ps) hk (.refl _) E A n B M w hW
   have hn : nilFact (own (LH.nil : LH β).q ty enc sz (LH.nil : LH β).xs) := ⟨rfl, rfl, rfl, rfl⟩
   obtain ⟨n1, n2, n3⟩ := nilFact_ok hn w
   refine ⟨h1.key, h1.inj, h1.mem, h1.a0, h1.n0, h1.ext, fun f hf => ?_, ?_⟩
   · rcases List.mem_cons.1 hf with rfl | hf
     · exact ⟨n1, fun b hb => (n2 b hb).elim, fun _ b hb => (n2 b hb).elim⟩
     · exact h1.fct f hf
   · rw [List.pairwise_cons]
     exact ⟨fun g _ _ b hb => (n2 b hb).elim, h1.dj⟩
abbrev fMW (r : Nat) (ps : List (Int × LH Waiting)) : Fct := fMap r venH ps
abbrev rW (ps : List (Int × LH Waiting)) : List Fct := rowsM 95 cWait 3 ps
abbrev rI (ps : List (Int × LH Int)) : List Fct := rowsM 3 cInt 1 ps
set_option maxHeartbeats 4000000 in
set_option maxRecDepth 100000 in
theorem wAdd_c (t kind on arg : Int) (g r : Nat) (ps : List (Int × LH Waiting)) (w : World) (hg : Blk w g 89 [.map (some r)]) (h : AtG w [fMW r ps, fO (rW ps)] []) (hoff : ∀ f ∈ [fMW r ps, fO (rW ps)] ++ [], ∀ b, f.foot b → b ≠ g)
   (hb : ((aget ps t).getD LH.nil).xs.length ≤ 1048576) :
   Calls Tryz.prog 110 #[.int .i64 t, .int .i64 kind, .int .i64 on, .int .i64 arg, .pointer (some ⟨g, 0, none⟩)] w
     (RetPG w g 89 1 [fMW r ps, fO (rW ps)] fun v cs L => v = .tuple #[] ∧ cs = [.map (some r)] ∧ ∃ qs : List (Int × LH Waiting), pm qs = addM (pm ps) (t, ⟨kind, on, arg⟩) ∧ L = [fMW r qs, fO (rW qs)]) := by
 refine callsPGc_fn Tryz.func110 rfl tabOk w _ rfl _ rfl _ 89 _ 1 rfl hg _ _ h hoff trivial [.int .i64 t, .int .i64 kind, .int .i64 on, .int .i64 arg] _ rfl rfl ?_
 obtain ⟨u, hu⟩ : ∃ u, u = (aget ps t).getD LH.nil := ⟨_, rfl⟩
 have hpm : ∀ y, pm (aset ps t ⟨y, u.xs ++ [⟨kind, on, arg⟩]⟩) = addM (pm ps) (t, ⟨kind, on, arg⟩) := fun y => by rw [hu]; exact pm_add ps t _ y
 refine draw_shift (Shift.rowOut 1 t rfl) ?_
 rw [← hu] at hb ⊢
 refine draw_start tabOk z95 z95 z95 200 [((0, 0), .v (.map (some r)))] [] [] z135 z138 trivial rfl ?_
 refine BothW.mk ?_ ?_
 · refine d_lookup 2 (qk := .i64) (kt := 3) (et := 93) (z := .slice none 0 0) rfl rfl rfl rfl ⟨rfl, rfl⟩ z95 z95 z95 (u.q.val u.xs.length) (by rw [hu]; cases aget ps t <;> rfl) ?_
   refine AllSl.mk fun b => ?_
   refine d_app (ti := tiOf tab) encWait 1 tabOk (ys := [⟨kind, on, arg⟩]) rfl rfl rfl rfl rfl rfl rfl rfl rfl (by decide) ⟨rfl, rfl⟩ rfl z30 z38 z38 z93 (fun y => ?_)
   refine d_mapset 3 (⟨y, u.xs ++ [⟨kind, on, arg⟩]⟩ : LH Waiting) (qk := .i64) (kt := 3) (et := 93) rfl rfl rfl rfl (fun _ => rfl) rfl rfl z95 z95 _ rfl z93 ?_
   refine ret_shift (.joinO [1, 3] (Gs := [[_], _]) z126 rfl (G := rW (aset ps t ⟨y, u.xs ++ [⟨kind, on, arg⟩]⟩)) (.trans (.of_eq (by simp)) (rows_perm_set t (⟨y, u.xs ++ [⟨kind, on, arg⟩]⟩ : LH Waiting) ps))) ?_
   exact retPG [1, 0] ⟨rfl, rfl, _, hpm y, rfl⟩ rfl rfl z127 rfl ⟨rfl, rfl, trivial⟩ (fun _ => rfl)
 · refine AllSl.mk fun b => ?_
   refine d_lookup 3 (qk := .i64) (kt := 3) (et := 93) (z := .slice none 0 0) rfl rfl rfl rfl ⟨rfl, rfl⟩ z95 z95 z95 (u.q.val u.xs.length) (by rw [hu]; cases aget ps t <;> rfl) ?_
   refine d_app (ti := tiOf tab) encWait 1 tabOk (ys := [⟨kind, on, arg⟩]) rfl rfl rfl rfl rfl rfl rfl rfl rfl (by decide) ⟨rfl, rfl⟩ rfl z30 z38 z38 z93 (fun y => ?_)
   refine d_mapset 3 (⟨y, u.xs ++ [⟨kind, on, arg⟩]⟩ : LH Waiting) (qk := .i64) (kt := 3) (et := 93) rfl rfl rfl rfl (fun _ => rfl) rfl rfl z95 z95 _ rfl z93 ?_
   refine ret_shift (.joinO [1, 3] (Gs := [[_], _]) z126 rfl (G := rW (aset ps t ⟨y, u.xs ++ [⟨kind, on, arg⟩]⟩)) (.trans (.of_eq (by simp)) (rows_perm_set t (⟨y, u.xs ++ [⟨kind, on, arg⟩]⟩ : LH Waiting) ps))) ?_
   exact retPG [1, 0] ⟨rfl, rfl, _, hpm y, rfl⟩ rfl rfl z127 rfl ⟨rfl, rfl, trivial⟩ (fun _ => rfl)
def evL {α β : Type} (f : Nat → α → List β) : Nat → List α → List β
 | _, [] => []
 | i, x :: r => f i x ++ evL f (i + 1) r
theorem evL_append {α β : Type} (f : Nat → α → List β) : ∀ (i : Nat) (xs ys : List α), evL f i (xs ++ ys) = evL f i xs ++ evL f (i + xs.length) ys
 | i, [], ys => by simp [evL]
 | i, x :: r, ys => by
   simp only [List.cons_append, evL, List.length_cons, evL_append f (i + 1) r ys, List.append_assoc]
   rw [show i + 1 + r.length = i + (r.length + 1) by omega]
theorem evL_succ {α β : Type} (f : Nat → α → List β) (xs : List α) {k : Nat} (hk : k < xs.length) : evL f 0 (xs.take (k + 1)) = evL f 0 (xs.take k) ++ f k xs[k] := by
 rw [List.take_succ_eq_append_getElem hk, evL_append]
 simp only [evL, List.append_nil, Nat.zero_add, List.length_take]
 rw [Nat.min_eq_left (by omega)]
theorem evL_pre {α β : Type} (f : Nat → α → List β) (xs : List α) {k : Nat} (hk : k < xs.length) : (evL f 0 (xs.take k)).length + (f k xs[k]).length ≤ (evL f 0 xs).length := by
 have h := evL_append f 0 (xs.take (k + 1)) (xs.drop (k + 1))
 rw [List.take_append_drop] at h
 rw [h, List.length_append, evL_succ f xs hk, List.length_append]
 omega
def evSem (i : Nat) (x : Sem) : List (Int × Waiting) := x.queue.map fun w => (w.t, ⟨2, (i : Int), w.n⟩)
def evOnce (i : Nat) (x : Once) : List (Int × Waiting) := x.waits.map fun t => (t, ⟨4, (i : Int), 0⟩)
def evGroup (i : Nat) (x : Group) : List (Int × Waiting) := x.waits.map fun t => (t, ⟨6, (i : Int), 0⟩)
def evBarrier (i : Nat) (x : Barrier) : List (Int × Waiting) := x.waits.map fun t => (t, ⟨7, (i : Int), 0⟩)
def evChan (i : Nat) (x : Chan) : List (Int × Waiting) := (x.senders.map fun l => (l.t, ⟨8, (i : Int), l.v⟩)) ++ x.getters.map fun t => (t, ⟨9, (i : Int), 0⟩)
def evOwn (i : Nat) (x : Once) : List (Int × Int) := if x.state = 1 then [(x.owner, (i : Int))] else []
def events (s : State) : List (Int × Waiting) := evL evSem 0 s.sems ++ evL evOnce 0 s.onces ++ evL evGroup 0 s.groups ++ evL evBarrier 0 s.barriers ++ evL evChan 0 s.chans
def owners (s : State) : List (Int × Int) := evL evOwn 0 s.onces
theorem addM_len {β : Type} (m : List (Int × List β)) (e : Int × β) (t : Int) : ((aget (addM m e) t).getD []).length ≤ ((aget m t).getD []).length + 1 := by
 obtain ⟨k, x⟩ := e
 simp only [addM]
 generalize hu : (aget m k).getD [] = u
 have : ∀ m : List (Int × List β), (aget m k).getD [] = u → ((aget (aset m k (u ++ [x])) t).getD []).length ≤ ((aget m t).getD []).length + 1 := fun m => by
   induction m with
   | nil =>
     intro h
     have hu0 : u = [] := by simpa [aget] using h.symm
     subst hu0
     simp only [aset, aget]
     by_cases e : k = t <;> simp [e]
   | cons p r ih =>
     intro h
     obtain ⟨q, v⟩ := p
     simp only [aset, aget] at h ⊢
     by_cases e : q = k
     · subst e
       simp only [if_true, Option.getD_some] at h
       subst h
       simp only [if_true, aget]
       by_cases e2 : q = t
       · simp [e2]
       · simp [e2]
     · simp only [e, if_false] at h ⊢
       simp only [aget]
       by_cases e2 : q = t
       · simp [e2]
       · simp only [e2, if_false]
         exact ih h
 exact this m hu
theorem mapOf_len {β : Type} (es : List (Int × β)) (t : Int) : ((aget (mapOf es) t).getD []).length ≤ es.length := by
 have : ∀ (es : List (Int × β)) (m : List (Int × List β)), ((aget (es.foldl addM m) t).getD []).length ≤ ((aget m t).getD []).length + es.length := fun es => by
   induction es with
   | nil => intro m; simp
   | cons e r ih =>
     intro m
     have h1 := ih (addM m e)
     have h2 := addM_len m e t
     simp only [List.foldl_cons, List.length_cons]
     omega
 have := this es []
 simpa [mapOf, aget] using this
theorem pm_len {β : Type} {ps : List (Int × LH β)} {es : List (Int × β)} (h : pm ps = mapOf es) (t : Int) : ((aget ps t).getD LH.nil).xs.length ≤ es.length := by
 have h1 := mapOf_len es t
 rw [← h, pm_aget] at h1
 cases hq : aget ps t with
 | none => simp [LH.nil]
 | some u => rw [hq] at h1; simpa using h1
set_option maxHeartbeats 40000000 in
set_option maxRecDepth 100000 in
theorem waitingsOf_c (s : StateH) (w : World) (h : At w [fR (stateO s)]) (hN : (events s.pure).length ≤ 1048576) (hl : s.sems.length ≤ 1048576 ∧ s.onces.length ≤ 1048576 ∧ s.groups.length ≤ 1048576 ∧ s.barriers.length ≤ 1048576 ∧ s.chans.length ≤ 1048576) :
   Calls Tryz.prog 64 #[stateV s] w (Ret w fun v L => ∃ (r r2 : Nat) (ps : List (Int × LH Waiting)) (os : List (Int × LH Int)), v = .tuple #[.map (some r), .map (some r2)] ∧ pm ps = mapOf (events s.pure) ∧ pm os = mapOf (owners s.pure) ∧ L = [fMW r ps, fO (rW ps), fMap r2 venH os, fO (rI os)]) := by
 obtain ⟨l0, l1, l2, l3, l4⟩ := hl
 have hN' := hN
 simp only [events, List.length_append] at hN'
 have mlen : ∀ {α β : Type} (f : α → β) (xs : List α), (xs.map f).length = xs.length := fun f xs => by simp
 refine calls1 Tryz.func64 rfl tabOk w _ rfl _ rfl _ h ⟨rfl, rfl, trivial⟩ _ (by decide) ?_
 refine stop_makeMap (venH (β := Waiting)) rfl ⟨rfl, rfl⟩ (fun r => ?_)
 refine stop_makeMap (venH (β := Int)) rfl ⟨rfl, rfl⟩ (fun r2 => ?_)
 have hE0 : ∃ E : List (Int × Waiting), E = [] := ⟨[], rfl⟩
 have len0 : s.pure.sems.length = s.sems.length := mlen _ _
 refine LoopW.mk ⟨{ p : Nat × List (Int × LH Waiting) × List (Int × LH Int) // p.1 ≤ s.sems.length ∧ pm p.2.1 = mapOf (([] : List (Int × Waiting)) ++ evL evSem 0 (s.pure.sems.take p.1)) ∧ pm p.2.2 = mapOf ([] : List (Int × Int)) },
   fun p => .mk [(1, .p 0 0), (4, .p 1 0), (5, .v (.map (some r2))), (6, .f 110 [(1, 0)]), (33, .v (s.h2.val s.sems.length)), (34, .v (.int .i64 (s.sems.length : Int))), (35, .v (.int .i64 (p.1.1 : Int)))] 2 0 [(0, 30, 9), (1, 89, 1)]
     [((0, 2), .v (s.h2.val s.sems.length)), ((0, 3), .v (s.h3.val s.onces.length)), ((0, 4), .v (s.h4.val s.groups.length)), ((0, 5), .v (s.h5.val s.barriers.length)), ((0, 6), .v (s.h6.val s.chans.length)), ((1, 0), .v (.map (some r)))] [fMW r p.1.2.1, fO (rW p.1.2.1), fMap r2 venH p.1.2.2, fO (rI p.1.2.2), fR (stateO s)],
   fun p => s.sems.length - p.1.1, ⟨(0, [], []), Nat.zero_le _, rfl, rfl⟩, ?_, ?_⟩
 · refine weak_shift (.joinO [] (Gs := []) trivial rfl (G := rI []) (.refl _)) ?_
   refine weak_shift (.joinO [] (Gs := []) trivial rfl (G := rW []) (.refl _)) ?_
   exact weak_mk [3, 0, 2, 1, 4] zw2 zw0 zw2 zw5 zw4 rfl rfl
 rintro ⟨⟨k, ps, os⟩, hk, hps, hos⟩
 simp only at hk hps hos
 apply CaseB.mk <;> intro g
 · have hlt : k < s.sems.length := by simpa using g
   have hltp : k < s.pure.sems.length := by rw [len0]; exact hlt
   have hget : s.pure.sems[k] = (s.sems[k]).m := by simp [StateH.pure]
   have hpre := evL_pre evSem s.pure.sems hltp
   have hsucc := evL_succ evSem s.pure.sems hltp
   rw [hget] at hpre hsucc
   have hw := e_succ k _ hlt (by omega)
   refine stop_idx encSemH tabOk rfl rfl rfl rfl rfl ⟨rfl, rfl⟩ (rdVia 4 rfl (.trans (.R_R (stateO_sems s)) (.ofR nest_h))) k rfl z38 (fun ad => ?_)
   refine LoopW.mk ⟨{ p : Nat × List (Int × LH Waiting) // p.1 ≤ (s.sems[k]).m.queue.length ∧ pm p.2 = mapOf (([] : List (Int × Waiting)) ++ evL evSem 0 (s.pure.sems.take k) ++ ((s.sems[k]).m.queue.take p.1).map fun x => (x.t, ⟨2, (k : Int), x.n⟩)) },
     fun p => .mk [(1, .p 0 0), (4, .p 1 0), (5, .v (.map (some r2))), (6, .f 110 [(1, 0)]), (33, .v (s.h2.val s.sems.length)), (34, .v (.int .i64 (s.sems.length : Int))), (35, .v (.int .i64 (k : Int))), (7, .v (.int .i64 (k : Int))), (8, .p 2 0), (41, .v ((s.sems[k]).q.val (s.sems[k]).m.queue.length)), (42, .v (.int .i64 ((s.sems[k]).m.queue.length : Int))), (43, .v (.int .i64 (p.1.1 : Int)))] 3 0 ((2, 57, 3) :: [(0, 30, 9), (1, 89, 1)])
       [((0, 2), .v (s.h2.val s.sems.length)), ((0, 3), .v (s.h3.val s.onces.length)), ((0, 4), .v (s.h4.val s.groups.length)), ((0, 5), .v (s.h5.val s.barriers.length)), ((0, 6), .v (s.h6.val s.chans.length)), ((1, 0), .v (.map (some r)))] [fMW r p.1.2, fO (rW p.1.2), fMap r2 venH os, fO (rI os), fR (stateO s)],
     fun p => (s.sems[k]).m.queue.length - p.1.1, ⟨(0, ps), Nat.zero_le _, by simpa using hps⟩, ?_, ?_⟩
   · exact weak_mk [0, 1, 2, 3, 4] zw2 zw0 zw2 zw5 zw4 rfl rfl
   rintro ⟨⟨j, ps⟩, hj, hps⟩
   simp only at hj hps
   apply CaseB.mk <;> intro g
   · have hlj : j < (s.sems[k]).m.queue.length := by simpa using g
     have hwj := e_succ j (s.sems[k]).m.queue.length hlj (by simp only [evSem, List.length_map] at hpre; omega)
     have hbnd : ∀ t, ((aget ps t).getD LH.nil).xs.length ≤ 1048576 := fun t => by
       have h1 := pm_len hps t
       simp only [List.length_append, List.length_map, List.length_take, List.length_nil] at h1
       have h2 : min j (s.sems[k]).m.queue.length ≤ (s.sems[k]).m.queue.length := Nat.min_le_right _ _
       simp only [evSem, List.length_map] at hpre; omega
     refine stop_idx encWaiter tabOk rfl rfl rfl rfl rfl ⟨rfl, rfl⟩ (rdVia 4 rfl (.trans (.R_R (stateO_sems s)) (.ofR (semsO_0 _ _ k hlt)))) j rfl z38 (fun ad2 => ?_)
     refine stop_callPGc _ [0, 1] (G := [_, _]) cl110 rfl rfl rfl rfl ⟨rfl, rfl⟩ rfl rfl ⟨rfl, rfl, trivial⟩ ⟨rfl, rfl, rfl, rfl, trivial⟩ (fun A w ga hga hW hblk => wAdd_c _ _ _ _ ga r ps w hblk (hW.atG [0, 1] (G := [_, _]) ⟨rfl, rfl, trivial⟩ rfl ⟨rfl, rfl, rfl, rfl, trivial⟩ [] (Fo := []) trivial rfl) (hW.atG_off z96 hga (ix := [0, 1]) (G := [_, _]) ⟨rfl, rfl, trivial⟩ (jx := []) (Fo := []) trivial) (hbnd _)) ?_
     rintro v cs L ⟨rfl, rfl, qs, hqs, rfl⟩
     refine ⟨⟨(j + 1, qs), by omega, ?_⟩, ?_, by simp only; omega⟩
     · rw [hqs, hps, ← mapOf_snoc, List.take_succ_eq_append_getElem hlj, List.map_append, List.map_cons, List.map_nil, List.append_assoc _ _ [_]]
     · exact weak_mk [0, 1, 2, 3, 4] zw6 zw0 zw6 zw5 zw12 rfl rfl
   have hgj : (s.sems[k]).m.queue.length ≤ j := by simpa using g
   rw [List.take_of_length_le hgj] at hps
   refine ⟨⟨(k + 1, ps, os), by omega, ?_, hos⟩, ?_, by simp only; omega⟩
   · have e : ([] : List (Int × Waiting)) ++ evL evSem 0 (s.pure.sems.take (k + 1)) = ([] : List (Int × Waiting)) ++ evL evSem 0 (s.pure.sems.take k) ++ (s.sems[k]).m.queue.map fun x => (x.t, ⟨2, (k : Int), x.n⟩) := by rw [hsucc]; simp [evSem]
     show pm ps = mapOf _
     rw [e]; exact hps
   · exact weak_mk [0, 1, 2, 3, 4] zw1 zw0 zw1 zw5 zw3 rfl rfl
 have hge : s.sems.length ≤ k := by simpa using g
 rw [List.take_of_length_le (by rw [len0]; exact hge)] at hps
 rw [List.nil_append] at hps
 have len1 : s.pure.onces.length = s.onces.length := mlen _ _
 refine LoopW.mk ⟨{ p : Nat × List (Int × LH Waiting) × List (Int × LH Int) // p.1 ≤ s.onces.length ∧ pm p.2.1 = mapOf (evL evSem 0 s.pure.sems ++ evL evOnce 0 (s.pure.onces.take p.1)) ∧ pm p.2.2 = mapOf (evL evOwn 0 (s.pure.onces.take p.1)) },
   fun p => .mk [(1, .p 0 0), (4, .p 1 0), (5, .v (.map (some r2))), (6, .f 110 [(1, 0)]), (57, .v (s.h3.val s.onces.length)), (58, .v (.int .i64 (s.onces.length : Int))), (59, .v (.int .i64 (p.1.1 : Int)))] 2 0 [(0, 30, 9), (1, 89, 1)]
     [((0, 2), .v (s.h2.val s.sems.length)), ((0, 3), .v (s.h3.val s.onces.length)), ((0, 4), .v (s.h4.val s.groups.length)), ((0, 5), .v (s.h5.val s.barriers.length)), ((0, 6), .v (s.h6.val s.chans.length)), ((1, 0), .v (.map (some r)))] [fMW r p.1.2.1, fO (rW p.1.2.1), fMap r2 venH p.1.2.2, fO (rI p.1.2.2), fR (stateO s)],
   fun p => s.onces.length - p.1.1, ⟨(0, ps, os), Nat.zero_le _, by simpa [evL] using hps, by simpa [evL] using hos⟩, ?_, ?_⟩
 · exact weak_mk [0, 1, 2, 3, 4] zw2 zw0 zw2 zw5 zw4 rfl rfl
 rintro ⟨⟨k, ps, os⟩, hk, hps, hos⟩
 simp only at hk hps hos
 apply CaseB.mk <;> intro g
 · have hlt : k < s.onces.length := by simpa using g
   have hltp : k < s.pure.onces.length := by rw [len1]; exact hlt
   have hget : s.pure.onces[k] = (s.onces[k]).m := by simp [StateH.pure]
   have hpre := evL_pre evOnce s.pure.onces hltp
   have hsucc := evL_succ evOnce s.pure.onces hltp
   rw [hget] at hpre hsucc
   have hw := e_succ k _ hlt (by omega)
   refine stop_idx encOnceH tabOk rfl rfl rfl rfl rfl ⟨rfl, rfl⟩ (rdVia 4 rfl (.trans (.R_R (stateO_onces s)) (.ofR nest_h))) k rfl z38 (fun ad => ?_)
   refine LoopW.mk ⟨{ p : Nat × List (Int × LH Waiting) // p.1 ≤ (s.onces[k]).m.waits.length ∧ pm p.2 = mapOf (evL evSem 0 s.pure.sems ++ evL evOnce 0 (s.pure.onces.take k) ++ ((s.onces[k]).m.waits.take p.1).map fun x => (x, ⟨4, (k : Int), 0⟩)) },
     fun p => .mk [(1, .p 0 0), (4, .p 1 0), (5, .v (.map (some r2))), (6, .f 110 [(1, 0)]), (57, .v (s.h3.val s.onces.length)), (58, .v (.int .i64 (s.onces.length : Int))), (59, .v (.int .i64 (k : Int))), (11, .v (.int .i64 (k : Int))), (12, .p 2 0), (65, .v ((s.onces[k]).q.val (s.onces[k]).m.waits.length)), (66, .v (.int .i64 ((s.onces[k]).m.waits.length : Int))), (67, .v (.int .i64 (p.1.1 : Int)))] 3 0 ((2, 70, 4) :: [(0, 30, 9), (1, 89, 1)])
       [((0, 2), .v (s.h2.val s.sems.length)), ((0, 3), .v (s.h3.val s.onces.length)), ((0, 4), .v (s.h4.val s.groups.length)), ((0, 5), .v (s.h5.val s.barriers.length)), ((0, 6), .v (s.h6.val s.chans.length)), ((1, 0), .v (.map (some r))), ((2, 0), .v (.int .i64 (s.onces[k]).m.state)), ((2, 1), .v (.int .i64 (s.onces[k]).m.owner))] [fMW r p.1.2, fO (rW p.1.2), fMap r2 venH os, fO (rI os), fR (stateO s)],
     fun p => (s.onces[k]).m.waits.length - p.1.1, ⟨(0, ps), Nat.zero_le _, by simpa using hps⟩, ?_, ?_⟩
   · exact weak_mk [0, 1, 2, 3, 4] zw2 zw0 zw2 zw5 zw4 rfl rfl
   rintro ⟨⟨j, ps⟩, hj, hps⟩
   simp only at hj hps
   apply CaseB.mk <;> intro g
   · have hlj : j < (s.onces[k]).m.waits.length := by simpa using g
     have hwj := e_succ j (s.onces[k]).m.waits.length hlj (by simp only [evOnce, List.length_map] at hpre; omega)
     have hbnd : ∀ t, ((aget ps t).getD LH.nil).xs.length ≤ 1048576 := fun t => by
       have h1 := pm_len hps t
       simp only [List.length_append, List.length_map, List.length_take] at h1
       have h2 : min j (s.onces[k]).m.waits.length ≤ (s.onces[k]).m.waits.length := Nat.min_le_right _ _
       simp only [evOnce, List.length_map] at hpre; omega
     refine stop_idx encInt tabOk rfl rfl rfl rfl rfl ⟨rfl, rfl⟩ (rdVia 4 rfl (.trans (.R_R (stateO_onces s)) (.ofR (oncesO_0 _ _ k hlt)))) j rfl z38 (fun ad2 => ?_)
     refine stop_callPGc _ [0, 1] (G := [_, _]) cl110 rfl rfl rfl rfl ⟨rfl, rfl⟩ rfl rfl ⟨rfl, rfl, trivial⟩ ⟨rfl, rfl, rfl, rfl, trivial⟩ (fun A w ga hga hW hblk => wAdd_c _ _ _ _ ga r ps w hblk (hW.atG [0, 1] (G := [_, _]) ⟨rfl, rfl, trivial⟩ rfl ⟨rfl, rfl, rfl, rfl, trivial⟩ [] (Fo := []) trivial rfl) (hW.atG_off z96 hga (ix := [0, 1]) (G := [_, _]) ⟨rfl, rfl, trivial⟩ (jx := []) (Fo := []) trivial) (hbnd _)) ?_
     rintro v cs L ⟨rfl, rfl, qs, hqs, rfl⟩
     refine ⟨⟨(j + 1, qs), by omega, ?_⟩, ?_, by simp only; omega⟩
     · rw [hqs, hps, ← mapOf_snoc, List.take_succ_eq_append_getElem hlj, List.map_append, List.map_cons, List.map_nil, List.append_assoc _ _ [_]]
     · exact weak_mk [0, 1, 2, 3, 4] zw6 zw0 zw6 zw5 zw12 rfl rfl
   have hgj : (s.onces[k]).m.waits.length ≤ j := by simpa using g
   rw [List.take_of_length_le hgj] at hps
   apply CaseB.mk <;> intro g
   · have hst : (s.onces[k]).m.state = 1 := by simpa using g
     have hob := pm_len hos (s.onces[k]).m.owner
     have hoL : (evL evOwn 0 (s.pure.onces.take k)).length ≤ 1048576 := by
       have : ∀ (i : Nat) (xs : List Once), (evL evOwn i xs).length ≤ xs.length := fun i xs => by
         induction xs generalizing i with
         | nil => simp [evL]
         | cons x r ih =>
           have := ih (i + 1)
           simp only [evL, evOwn, List.length_append, List.length_cons]
           split <;> simp <;> omega
       have h2 := this 0 (s.pure.onces.take k)
       simp only [List.length_take] at h2
       omega
     obtain ⟨u, hu⟩ : ∃ u, u = (aget os (s.onces[k]).m.owner).getD LH.nil := ⟨_, rfl⟩
     have hpm : ∀ y, pm (aset os (s.onces[k]).m.owner ⟨y, u.xs ++ [(k : Int)]⟩) = addM (pm os) ((s.onces[k]).m.owner, (k : Int)) := fun y => by rw [hu]; exact pm_add os _ _ y
     have hsO := evL_succ evOwn s.pure.onces hltp
     rw [hget] at hsO
     have hfin : ∀ y, pm (aset os (s.onces[k]).m.owner ⟨y, u.xs ++ [(k : Int)]⟩) = mapOf (evL evOwn 0 (s.pure.onces.take (k + 1))) := fun y => by
       rw [hpm, hos, ← mapOf_snoc, hsO]; simp [evOwn, hst]
     rw [← hu] at hob
     refine draw_shift (Shift.rowOut 3 (s.onces[k]).m.owner rfl) ?_
     rw [← hu]
     refine draw_start tabOk z95 z95 z95 200 [((2, 1), .v (.int .i64 (s.onces[k]).m.owner))] [] [] z135 z138 trivial rfl ?_
     refine BothW.mk ?_ ?_
     · refine d_lookup 4 (qk := .i64) (kt := 3) (et := 23) (z := .slice none 0 0) rfl rfl rfl rfl ⟨rfl, rfl⟩ z95 z95 z95 (u.q.val u.xs.length) (by rw [hu]; cases aget os (s.onces[k]).m.owner <;> rfl) ?_
       refine AllSl.mk fun b => ?_
       refine d_app (ti := tiOf tab) encInt 1 tabOk (ys := [(k : Int)]) rfl rfl rfl rfl rfl rfl rfl rfl rfl (by decide) ⟨rfl, rfl⟩ rfl z30 z38 z38 z93 (fun y => ?_)
       refine d_mapset 5 (⟨y, u.xs ++ [(k : Int)]⟩ : LH Int) (qk := .i64) (kt := 3) (et := 23) rfl rfl rfl rfl (fun _ => rfl) rfl rfl z95 z95 _ rfl z93 ?_
       refine ⟨⟨(k + 1, ps, aset os (s.onces[k]).m.owner ⟨y, u.xs ++ [(k : Int)]⟩), by omega, ?_, hfin y⟩, ?_, by simp only; omega⟩
       · have e : evL evSem 0 s.pure.sems ++ evL evOnce 0 (s.pure.onces.take (k + 1)) = evL evSem 0 s.pure.sems ++ evL evOnce 0 (s.pure.onces.take k) ++ (s.onces[k]).m.waits.map fun x => (x, ⟨4, (k : Int), 0⟩) := by rw [hsucc]; simp [evOnce]
         show pm ps = mapOf _
         rw [e]; exact hps
       · refine weak_shift (.joinO [1, 3] (Gs := [[_], _]) z126 rfl (G := rI (aset os (s.onces[k]).m.owner ⟨y, u.xs ++ [(k : Int)]⟩)) (.trans (.of_eq (by simp)) (rows_perm_set _ (⟨y, u.xs ++ [(k : Int)]⟩ : LH Int) os))) ?_
         exact weak_mk [3, 4, 1, 0, 5] zw1 zw0 zw1 zw5 zw3 rfl rfl
     · refine AllSl.mk fun b => ?_
       refine d_lookup 5 (qk := .i64) (kt := 3) (et := 23) (z := .slice none 0 0) rfl rfl rfl rfl ⟨rfl, rfl⟩ z95 z95 z95 (u.q.val u.xs.length) (by rw [hu]; cases aget os (s.onces[k]).m.owner <;> rfl) ?_
       refine d_app (ti := tiOf tab) encInt 1 tabOk (ys := [(k : Int)]) rfl rfl rfl rfl rfl rfl rfl rfl rfl (by decide) ⟨rfl, rfl⟩ rfl z30 z38 z38 z93 (fun y => ?_)
       refine d_mapset 5 (⟨y, u.xs ++ [(k : Int)]⟩ : LH Int) (qk := .i64) (kt := 3) (et := 23) rfl rfl rfl rfl (fun _ => rfl) rfl rfl z95 z95 _ rfl z93 ?_
       refine ⟨⟨(k + 1, ps, aset os (s.onces[k]).m.owner ⟨y, u.xs ++ [(k : Int)]⟩), by omega, ?_, hfin y⟩, ?_, by simp only; omega⟩
       · have e : evL evSem 0 s.pure.sems ++ evL evOnce 0 (s.pure.onces.take (k + 1)) = evL evSem 0 s.pure.sems ++ evL evOnce 0 (s.pure.onces.take k) ++ (s.onces[k]).m.waits.map fun x => (x, ⟨4, (k : Int), 0⟩) := by rw [hsucc]; simp [evOnce]
         show pm ps = mapOf _
         rw [e]; exact hps
       · refine weak_shift (.joinO [1, 3] (Gs := [[_], _]) z126 rfl (G := rI (aset os (s.onces[k]).m.owner ⟨y, u.xs ++ [(k : Int)]⟩)) (.trans (.of_eq (by simp)) (rows_perm_set _ (⟨y, u.xs ++ [(k : Int)]⟩ : LH Int) os))) ?_
         exact weak_mk [3, 4, 1, 0, 5] zw1 zw0 zw1 zw5 zw3 rfl rfl
   have hst : ¬ (s.onces[k]).m.state = 1 := by simpa using g
   have hsO := evL_succ evOwn s.pure.onces hltp
   rw [hget] at hsO
   refine ⟨⟨(k + 1, ps, os), by omega, ?_, by rw [hsO]; simpa [evOwn, hst] using hos⟩, ?_, by simp only; omega⟩
   · have e : evL evSem 0 s.pure.sems ++ evL evOnce 0 (s.pure.onces.take (k + 1)) = evL evSem 0 s.pure.sems ++ evL evOnce 0 (s.pure.onces.take k) ++ (s.onces[k]).m.waits.map fun x => (x, ⟨4, (k : Int), 0⟩) := by rw [hsucc]; simp [evOnce]
     show pm ps = mapOf _
     rw [e]; exact hps
   · exact weak_mk [0, 1, 2, 3, 4] zw1 zw0 zw1 zw5 zw3 rfl rfl
 have hge : s.onces.length ≤ k := by simpa using g
 rw [List.take_of_length_le (by rw [len1]; exact hge)] at hps
 rw [List.take_of_length_le (by rw [len1]; exact hge)] at hos
 have len2 : s.pure.groups.length = s.groups.length := mlen _ _
 refine LoopW.mk ⟨{ p : Nat × List (Int × LH Waiting) × List (Int × LH Int) // p.1 ≤ s.groups.length ∧ pm p.2.1 = mapOf (evL evSem 0 s.pure.sems ++ evL evOnce 0 s.pure.onces ++ evL evGroup 0 (s.pure.groups.take p.1)) ∧ pm p.2.2 = mapOf (owners s.pure) },
   fun p => .mk [(1, .p 0 0), (4, .p 1 0), (5, .v (.map (some r2))), (6, .f 110 [(1, 0)]), (91, .v (s.h4.val s.groups.length)), (92, .v (.int .i64 (s.groups.length : Int))), (93, .v (.int .i64 (p.1.1 : Int)))] 2 0 [(0, 30, 9), (1, 89, 1)]
     [((0, 2), .v (s.h2.val s.sems.length)), ((0, 3), .v (s.h3.val s.onces.length)), ((0, 4), .v (s.h4.val s.groups.length)), ((0, 5), .v (s.h5.val s.barriers.length)), ((0, 6), .v (s.h6.val s.chans.length)), ((1, 0), .v (.map (some r)))] [fMW r p.1.2.1, fO (rW p.1.2.1), fMap r2 venH p.1.2.2, fO (rI p.1.2.2), fR (stateO s)],
   fun p => s.groups.length - p.1.1, ⟨(0, ps, os), Nat.zero_le _, by simpa [evL] using hps, hos⟩, ?_, ?_⟩
 · exact weak_mk [0, 1, 2, 3, 4] zw2 zw0 zw2 zw5 zw4 rfl rfl
 rintro ⟨⟨k, ps, os⟩, hk, hps, hos⟩
 simp only at hk hps hos
 apply CaseB.mk <;> intro g
 · have hlt : k < s.groups.length := by simpa using g
   have hltp : k < s.pure.groups.length := by rw [len2]; exact hlt
   have hget : s.pure.groups[k] = (s.groups[k]).m := by simp [StateH.pure]
   have hpre := evL_pre evGroup s.pure.groups hltp
   have hsucc := evL_succ evGroup s.pure.groups hltp
   rw [hget] at hpre hsucc
   have hw := e_succ k _ hlt (by omega)
   refine stop_idx encGroupH tabOk rfl rfl rfl rfl rfl ⟨rfl, rfl⟩ (rdVia 4 rfl (.trans (.R_R (stateO_groups s)) (.ofR nest_h))) k rfl z38 (fun ad => ?_)
   refine LoopW.mk ⟨{ p : Nat × List (Int × LH Waiting) // p.1 ≤ (s.groups[k]).m.waits.length ∧ pm p.2 = mapOf (evL evSem 0 s.pure.sems ++ evL evOnce 0 s.pure.onces ++ evL evGroup 0 (s.pure.groups.take k) ++ ((s.groups[k]).m.waits.take p.1).map fun x => (x, ⟨6, (k : Int), 0⟩)) },
     fun p => .mk [(1, .p 0 0), (4, .p 1 0), (5, .v (.map (some r2))), (6, .f 110 [(1, 0)]), (91, .v (s.h4.val s.groups.length)), (92, .v (.int .i64 (s.groups.length : Int))), (93, .v (.int .i64 (k : Int))), (15, .v (.int .i64 (k : Int))), (16, .p 2 0), (99, .v ((s.groups[k]).q.val (s.groups[k]).m.waits.length)), (100, .v (.int .i64 ((s.groups[k]).m.waits.length : Int))), (101, .v (.int .i64 (p.1.1 : Int)))] 3 0 ((2, 74, 2) :: [(0, 30, 9), (1, 89, 1)])
       [((0, 2), .v (s.h2.val s.sems.length)), ((0, 3), .v (s.h3.val s.onces.length)), ((0, 4), .v (s.h4.val s.groups.length)), ((0, 5), .v (s.h5.val s.barriers.length)), ((0, 6), .v (s.h6.val s.chans.length)), ((1, 0), .v (.map (some r)))] [fMW r p.1.2, fO (rW p.1.2), fMap r2 venH os, fO (rI os), fR (stateO s)],
     fun p => (s.groups[k]).m.waits.length - p.1.1, ⟨(0, ps), Nat.zero_le _, by simpa using hps⟩, ?_, ?_⟩
   · exact weak_mk [0, 1, 2, 3, 4] zw2 zw0 zw2 zw5 zw4 rfl rfl
   rintro ⟨⟨j, ps⟩, hj, hps⟩
   simp only at hj hps
   apply CaseB.mk <;> intro g
   · have hlj : j < (s.groups[k]).m.waits.length := by simpa using g
     have hwj := e_succ j (s.groups[k]).m.waits.length hlj (by simp only [evGroup, List.length_map] at hpre; omega)
     have hbnd : ∀ t, ((aget ps t).getD LH.nil).xs.length ≤ 1048576 := fun t => by
       have h1 := pm_len hps t
       simp only [List.length_append, List.length_map, List.length_take] at h1
       have h2 : min j (s.groups[k]).m.waits.length ≤ (s.groups[k]).m.waits.length := Nat.min_le_right _ _
       simp only [evGroup, List.length_map] at hpre; omega
     refine stop_idx encInt tabOk rfl rfl rfl rfl rfl ⟨rfl, rfl⟩ (rdVia 4 rfl (.trans (.R_R (stateO_groups s)) (.ofR (groupsO_0 _ _ k hlt)))) j rfl z38 (fun ad2 => ?_)
     refine stop_callPGc _ [0, 1] (G := [_, _]) cl110 rfl rfl rfl rfl ⟨rfl, rfl⟩ rfl rfl ⟨rfl, rfl, trivial⟩ ⟨rfl, rfl, rfl, rfl, trivial⟩ (fun A w ga hga hW hblk => wAdd_c _ _ _ _ ga r ps w hblk (hW.atG [0, 1] (G := [_, _]) ⟨rfl, rfl, trivial⟩ rfl ⟨rfl, rfl, rfl, rfl, trivial⟩ [] (Fo := []) trivial rfl) (hW.atG_off z96 hga (ix := [0, 1]) (G := [_, _]) ⟨rfl, rfl, trivial⟩ (jx := []) (Fo := []) trivial) (hbnd _)) ?_
     rintro v cs L ⟨rfl, rfl, qs, hqs, rfl⟩
     refine ⟨⟨(j + 1, qs), by omega, ?_⟩, ?_, by simp only; omega⟩
     · rw [hqs, hps, ← mapOf_snoc, List.take_succ_eq_append_getElem hlj, List.map_append, List.map_cons, List.map_nil, List.append_assoc _ _ [_]]
     · exact weak_mk [0, 1, 2, 3, 4] zw6 zw0 zw6 zw5 zw12 rfl rfl
   have hgj : (s.groups[k]).m.waits.length ≤ j := by simpa using g
   rw [List.take_of_length_le hgj] at hps
   refine ⟨⟨(k + 1, ps, os), by omega, ?_, hos⟩, ?_, by simp only; omega⟩
   · have e : evL evSem 0 s.pure.sems ++ evL evOnce 0 s.pure.onces ++ evL evGroup 0 (s.pure.groups.take (k + 1)) = evL evSem 0 s.pure.sems ++ evL evOnce 0 s.pure.onces ++ evL evGroup 0 (s.pure.groups.take k) ++ (s.groups[k]).m.waits.map fun x => (x, ⟨6, (k : Int), 0⟩) := by rw [hsucc]; simp [evGroup]
     show pm ps = mapOf _
     rw [e]; exact hps
   · exact weak_mk [0, 1, 2, 3, 4] zw1 zw0 zw1 zw5 zw3 rfl rfl
 have hge : s.groups.length ≤ k := by simpa using g
 rw [List.take_of_length_le (by rw [len2]; exact hge)] at hps
 have len3 : s.pure.barriers.length = s.barriers.length := mlen _ _
 refine LoopW.mk ⟨{ p : Nat × List (Int × LH Waiting) × List (Int × LH Int) // p.1 ≤ s.barriers.length ∧ pm p.2.1 = mapOf (evL evSem 0 s.pure.sems ++ evL evOnce 0 s.pure.onces ++ evL evGroup 0 s.pure.groups ++ evL evBarrier 0 (s.pure.barriers.take p.1)) ∧ pm p.2.2 = mapOf (owners s.pure) },
   fun p => .mk [(1, .p 0 0), (4, .p 1 0), (5, .v (.map (some r2))), (6, .f 110 [(1, 0)]), (112, .v (s.h5.val s.barriers.length)), (113, .v (.int .i64 (s.barriers.length : Int))), (114, .v (.int .i64 (p.1.1 : Int)))] 2 0 [(0, 30, 9), (1, 89, 1)]
     [((0, 2), .v (s.h2.val s.sems.length)), ((0, 3), .v (s.h3.val s.onces.length)), ((0, 4), .v (s.h4.val s.groups.length)), ((0, 5), .v (s.h5.val s.barriers.length)), ((0, 6), .v (s.h6.val s.chans.length)), ((1, 0), .v (.map (some r)))] [fMW r p.1.2.1, fO (rW p.1.2.1), fMap r2 venH p.1.2.2, fO (rI p.1.2.2), fR (stateO s)],
   fun p => s.barriers.length - p.1.1, ⟨(0, ps, os), Nat.zero_le _, by simpa [evL] using hps, hos⟩, ?_, ?_⟩
 · exact weak_mk [0, 1, 2, 3, 4] zw2 zw0 zw2 zw5 zw4 rfl rfl
 rintro ⟨⟨k, ps, os⟩, hk, hps, hos⟩
 simp only at hk hps hos
 apply CaseB.mk <;> intro g
 · have hlt : k < s.barriers.length := by simpa using g
   have hltp : k < s.pure.barriers.length := by rw [len3]; exact hlt
   have hget : s.pure.barriers[k] = (s.barriers[k]).m := by simp [StateH.pure]
   have hpre := evL_pre evBarrier s.pure.barriers hltp
   have hsucc := evL_succ evBarrier s.pure.barriers hltp
   rw [hget] at hpre hsucc
   have hw := e_succ k _ hlt (by omega)
   refine stop_idx encBarrierH tabOk rfl rfl rfl rfl rfl ⟨rfl, rfl⟩ (rdVia 4 rfl (.trans (.R_R (stateO_barriers s)) (.ofR nest_h))) k rfl z38 (fun ad => ?_)
   refine LoopW.mk ⟨{ p : Nat × List (Int × LH Waiting) // p.1 ≤ (s.barriers[k]).m.waits.length ∧ pm p.2 = mapOf (evL evSem 0 s.pure.sems ++ evL evOnce 0 s.pure.onces ++ evL evGroup 0 s.pure.groups ++ evL evBarrier 0 (s.pure.barriers.take k) ++ ((s.barriers[k]).m.waits.take p.1).map fun x => (x, ⟨7, (k : Int), 0⟩)) },
     fun p => .mk [(1, .p 0 0), (4, .p 1 0), (5, .v (.map (some r2))), (6, .f 110 [(1, 0)]), (112, .v (s.h5.val s.barriers.length)), (113, .v (.int .i64 (s.barriers.length : Int))), (114, .v (.int .i64 (k : Int))), (19, .v (.int .i64 (k : Int))), (20, .p 2 0), (120, .v ((s.barriers[k]).q.val (s.barriers[k]).m.waits.length)), (121, .v (.int .i64 ((s.barriers[k]).m.waits.length : Int))), (122, .v (.int .i64 (p.1.1 : Int)))] 3 0 ((2, 65, 3) :: [(0, 30, 9), (1, 89, 1)])
       [((0, 2), .v (s.h2.val s.sems.length)), ((0, 3), .v (s.h3.val s.onces.length)), ((0, 4), .v (s.h4.val s.groups.length)), ((0, 5), .v (s.h5.val s.barriers.length)), ((0, 6), .v (s.h6.val s.chans.length)), ((1, 0), .v (.map (some r)))] [fMW r p.1.2, fO (rW p.1.2), fMap r2 venH os, fO (rI os), fR (stateO s)],
     fun p => (s.barriers[k]).m.waits.length - p.1.1, ⟨(0, ps), Nat.zero_le _, by simpa using hps⟩, ?_, ?_⟩
   · exact weak_mk [0, 1, 2, 3, 4] zw2 zw0 zw2 zw5 zw4 rfl rfl
   rintro ⟨⟨j, ps⟩, hj, hps⟩
   simp only at hj hps
   apply CaseB.mk <;> intro g
   · have hlj : j < (s.barriers[k]).m.waits.length := by simpa using g
     have hwj := e_succ j (s.barriers[k]).m.waits.length hlj (by simp only [evBarrier, List.length_map] at hpre; omega)
     have hbnd : ∀ t, ((aget ps t).getD LH.nil).xs.length ≤ 1048576 := fun t => by
       have h1 := pm_len hps t
       simp only [List.length_append, List.length_map, List.length_take] at h1
       have h2 : min j (s.barriers[k]).m.waits.length ≤ (s.barriers[k]).m.waits.length := Nat.min_le_right _ _
       simp only [evBarrier, List.length_map] at hpre; omega
     refine stop_idx encInt tabOk rfl rfl rfl rfl rfl ⟨rfl, rfl⟩ (rdVia 4 rfl (.trans (.R_R (stateO_barriers s)) (.ofR (barriersO_0 _ _ k hlt)))) j rfl z38 (fun ad2 => ?_)
     refine stop_callPGc _ [0, 1] (G := [_, _]) cl110 rfl rfl rfl rfl ⟨rfl, rfl⟩ rfl rfl ⟨rfl, rfl, trivial⟩ ⟨rfl, rfl, rfl, rfl, trivial⟩ (fun A w ga hga hW hblk => wAdd_c _ _ _ _ ga r ps w hblk (hW.atG [0, 1] (G := [_, _]) ⟨rfl, rfl, trivial⟩ rfl ⟨rfl, rfl, rfl, rfl, trivial⟩ [] (Fo := []) trivial rfl) (hW.atG_off z96 hga (ix := [0, 1]) (G := [_, _]) ⟨rfl, rfl, trivial⟩ (jx := []) (Fo := []) trivial) (hbnd _)) ?_
     rintro v cs L ⟨rfl, rfl, qs, hqs, rfl⟩
     refine ⟨⟨(j + 1, qs), by omega, ?_⟩, ?_, by simp only; omega⟩
     · rw [hqs, hps, ← mapOf_snoc, List.take_succ_eq_append_getElem hlj, List.map_append, List.map_cons, List.map_nil, List.append_assoc _ _ [_]]
     · exact weak_mk [0, 1, 2, 3, 4] zw6 zw0 zw6 zw5 zw12 rfl rfl
   have hgj : (s.barriers[k]).m.waits.length ≤ j := by simpa using g
   rw [List.take_of_length_le hgj] at hps
   refine ⟨⟨(k + 1, ps, os), by omega, ?_, hos⟩, ?_, by simp only; omega⟩
   · have e : evL evSem 0 s.pure.sems ++ evL evOnce 0 s.pure.onces ++ evL evGroup 0 s.pure.groups ++ evL evBarrier 0 (s.pure.barriers.take (k + 1)) = evL evSem 0 s.pure.sems ++ evL evOnce 0 s.pure.onces ++ evL evGroup 0 s.pure.groups ++ evL evBarrier 0 (s.pure.barriers.take k) ++ (s.barriers[k]).m.waits.map fun x => (x, ⟨7, (k : Int), 0⟩) := by rw [hsucc]; simp [evBarrier]
     show pm ps = mapOf _
     rw [e]; exact hps
   · exact weak_mk [0, 1, 2, 3, 4] zw1 zw0 zw1 zw5 zw3 rfl rfl
 have hge : s.barriers.length ≤ k := by simpa using g
 rw [List.take_of_length_le (by rw [len3]; exact hge)] at hps
 have len4 : s.pure.chans.length = s.chans.length := mlen _ _
 refine LoopW.mk ⟨{ p : Nat × List (Int × LH Waiting) × List (Int × LH Int) // p.1 ≤ s.chans.length ∧ pm p.2.1 = mapOf (evL evSem 0 s.pure.sems ++ evL evOnce 0 s.pure.onces ++ evL evGroup 0 s.pure.groups ++ evL evBarrier 0 s.pure.barriers ++ evL evChan 0 (s.pure.chans.take p.1)) ∧ pm p.2.2 = mapOf (owners s.pure) },
   fun p => .mk [(1, .p 0 0), (4, .p 1 0), (5, .v (.map (some r2))), (6, .f 110 [(1, 0)]), (133, .v (s.h6.val s.chans.length)), (134, .v (.int .i64 (s.chans.length : Int))), (135, .v (.int .i64 (p.1.1 : Int)))] 2 0 [(0, 30, 9), (1, 89, 1)]
     [((0, 2), .v (s.h2.val s.sems.length)), ((0, 3), .v (s.h3.val s.onces.length)), ((0, 4), .v (s.h4.val s.groups.length)), ((0, 5), .v (s.h5.val s.barriers.length)), ((0, 6), .v (s.h6.val s.chans.length)), ((1, 0), .v (.map (some r)))] [fMW r p.1.2.1, fO (rW p.1.2.1), fMap r2 venH p.1.2.2, fO (rI p.1.2.2), fR (stateO s)],
   fun p => s.chans.length - p.1.1, ⟨(0, ps, os), Nat.zero_le _, by simpa [evL] using hps, hos⟩, ?_, ?_⟩
 · exact weak_mk [0, 1, 2, 3, 4] zw2 zw0 zw2 zw5 zw4 rfl rfl
 rintro ⟨⟨k, ps, os⟩, hk, hps, hos⟩
 simp only at hk hps hos
 apply CaseB.mk <;> intro g
 · have hlt : k < s.chans.length := by simpa using g
   have hltp : k < s.pure.chans.length := by rw [len4]; exact hlt
   have hget : s.pure.chans[k] = (s.chans[k]).m := by simp [StateH.pure]
   have hpre := evL_pre evChan s.pure.chans hltp
   have hsucc := evL_succ evChan s.pure.chans hltp
   rw [hget] at hpre hsucc
   have hw := e_succ k _ hlt (by omega)
   refine stop_idx encChanH tabOk rfl rfl rfl rfl rfl ⟨rfl, rfl⟩ (rdVia 4 rfl (.trans (.R_R (stateO_chans s)) (.ofR nest_h))) k rfl z38 (fun ad => ?_)
   refine LoopW.mk ⟨{ p : Nat × List (Int × LH Waiting) // p.1 ≤ (s.chans[k]).m.senders.length ∧ pm p.2 = mapOf (evL evSem 0 s.pure.sems ++ evL evOnce 0 s.pure.onces ++ evL evGroup 0 s.pure.groups ++ evL evBarrier 0 s.pure.barriers ++ evL evChan 0 (s.pure.chans.take k) ++ ((s.chans[k]).m.senders.take p.1).map fun x => (x.t, ⟨8, (k : Int), x.v⟩)) },
     fun p => .mk [(1, .p 0 0), (4, .p 1 0), (5, .v (.map (some r2))), (6, .f 110 [(1, 0)]), (133, .v (s.h6.val s.chans.length)), (134, .v (.int .i64 (s.chans.length : Int))), (135, .v (.int .i64 (k : Int))), (23, .v (.int .i64 (k : Int))), (24, .p 2 0), (141, .v ((s.chans[k]).q1.val (s.chans[k]).m.senders.length)), (142, .v (.int .i64 ((s.chans[k]).m.senders.length : Int))), (143, .v (.int .i64 (p.1.1 : Int)))] 3 0 ((2, 80, 5) :: [(0, 30, 9), (1, 89, 1)])
       [((0, 2), .v (s.h2.val s.sems.length)), ((0, 3), .v (s.h3.val s.onces.length)), ((0, 4), .v (s.h4.val s.groups.length)), ((0, 5), .v (s.h5.val s.barriers.length)), ((0, 6), .v (s.h6.val s.chans.length)), ((1, 0), .v (.map (some r))), ((2, 3), .v ((s.chans[k]).q2.val (s.chans[k]).m.getters.length))] [fMW r p.1.2, fO (rW p.1.2), fMap r2 venH os, fO (rI os), fR (stateO s)],
     fun p => (s.chans[k]).m.senders.length - p.1.1, ⟨(0, ps), Nat.zero_le _, by simpa using hps⟩, ?_, ?_⟩
   · exact weak_mk [0, 1, 2, 3, 4] zw2 zw0 zw2 zw5 zw4 rfl rfl
   rintro ⟨⟨j, ps⟩, hj, hps⟩
   simp only at hj hps
   apply CaseB.mk <;> intro g
   · have hlj : j < (s.chans[k]).m.senders.length := by simpa using g
     have hwj := e_succ j (s.chans[k]).m.senders.length hlj z57
     have hbnd : ∀ t, ((aget ps t).getD LH.nil).xs.length ≤ 1048576 := fun t => by
       have h1 := pm_len hps t
       simp only [List.length_append, List.length_map, List.length_take] at h1
       have h2 : min j (s.chans[k]).m.senders.length ≤ (s.chans[k]).m.senders.length := Nat.min_le_right _ _
       simp only [evChan, List.length_append, List.length_map] at hpre; omega
     refine stop_idx encLet tabOk rfl rfl rfl rfl rfl ⟨rfl, rfl⟩ (rdVia 4 rfl (.trans (.R_R (stateO_chans s)) (.ofR (chansO_1 _ _ k hlt)))) j rfl z38 (fun ad2 => ?_)
     refine stop_callPGc _ [0, 1] (G := [_, _]) cl110 rfl rfl rfl rfl ⟨rfl, rfl⟩ rfl rfl ⟨rfl, rfl, trivial⟩ ⟨rfl, rfl, rfl, rfl, trivial⟩ (fun A w ga hga hW hblk => wAdd_c _ _ _ _ ga r ps w hblk (hW.atG [0, 1] (G := [_, _]) ⟨rfl, rfl, trivial⟩ rfl ⟨rfl, rfl, rfl, rfl, trivial⟩ [] (Fo := []) trivial rfl) (hW.atG_off z96 hga (ix := [0, 1]) (G := [_, _]) ⟨rfl, rfl, trivial⟩ (jx := []) (Fo := []) trivial) (hbnd _)) ?_
     rintro v cs L ⟨rfl, rfl, qs, hqs, rfl⟩
     refine ⟨⟨(j + 1, qs), by omega, ?_⟩, ?_, by simp only; omega⟩
     · rw [hqs, hps, ← mapOf_snoc, List.take_succ_eq_append_getElem hlj, List.map_append, List.map_cons, List.map_nil, List.append_assoc _ _ [_]]
     · exact weak_mk [0, 1, 2, 3, 4] zw6 zw0 zw6 zw5 zw12 rfl rfl
   have hgj : (s.chans[k]).m.senders.length ≤ j := by simpa using g
   rw [List.take_of_length_le hgj] at hps
   refine LoopW.mk ⟨{ p : Nat × List (Int × LH Waiting) // p.1 ≤ (s.chans[k]).m.getters.length ∧ pm p.2 = mapOf ((evL evSem 0 s.pure.sems ++ evL evOnce 0 s.pure.onces ++ evL evGroup 0 s.pure.groups ++ evL evBarrier 0 s.pure.barriers ++ evL evChan 0 (s.pure.chans.take k) ++ (s.chans[k]).m.senders.map fun x => (x.t, ⟨8, (k : Int), x.v⟩)) ++ ((s.chans[k]).m.getters.take p.1).map fun x => (x, ⟨9, (k : Int), 0⟩)) },
     fun p => .mk [(1, .p 0 0), (4, .p 1 0), (5, .v (.map (some r2))), (6, .f 110 [(1, 0)]), (133, .v (s.h6.val s.chans.length)), (134, .v (.int .i64 (s.chans.length : Int))), (135, .v (.int .i64 (k : Int))), (23, .v (.int .i64 (k : Int))), (24, .p 2 0), (156, .v ((s.chans[k]).q2.val (s.chans[k]).m.getters.length)), (157, .v (.int .i64 ((s.chans[k]).m.getters.length : Int))), (158, .v (.int .i64 (p.1.1 : Int)))] 3 0 ((2, 80, 5) :: [(0, 30, 9), (1, 89, 1)])
       [((0, 2), .v (s.h2.val s.sems.length)), ((0, 3), .v (s.h3.val s.onces.length)), ((0, 4), .v (s.h4.val s.groups.length)), ((0, 5), .v (s.h5.val s.barriers.length)), ((0, 6), .v (s.h6.val s.chans.length)), ((1, 0), .v (.map (some r)))] [fMW r p.1.2, fO (rW p.1.2), fMap r2 venH os, fO (rI os), fR (stateO s)],
     fun p => (s.chans[k]).m.getters.length - p.1.1, ⟨(0, ps), Nat.zero_le _, by simpa using hps⟩, ?_, ?_⟩
   · exact weak_mk [0, 1, 2, 3, 4] zw2 zw0 zw2 zw5 zw4 rfl rfl
   rintro ⟨⟨j, ps⟩, hj, hps⟩
   simp only at hj hps
   apply CaseB.mk <;> intro g
   · have hlj : j < (s.chans[k]).m.getters.length := by simpa using g
     have hwj := e_succ j (s.chans[k]).m.getters.length hlj z57
     have hbnd : ∀ t, ((aget ps t).getD LH.nil).xs.length ≤ 1048576 := fun t => by
       have h1 := pm_len hps t
       simp only [List.length_append, List.length_map, List.length_take] at h1
       have h2 : min j (s.chans[k]).m.getters.length ≤ (s.chans[k]).m.getters.length := Nat.min_le_right _ _
       simp only [evChan, List.length_append, List.length_map] at hpre; omega
     refine stop_idx encInt tabOk rfl rfl rfl rfl rfl ⟨rfl, rfl⟩ (rdVia 4 rfl (.trans (.R_R (stateO_chans s)) (.ofR (chansO_2 _ _ k hlt)))) j rfl z38 (fun ad2 => ?_)
     refine stop_callPGc _ [0, 1] (G := [_, _]) cl110 rfl rfl rfl rfl ⟨rfl, rfl⟩ rfl rfl ⟨rfl, rfl, trivial⟩ ⟨rfl, rfl, rfl, rfl, trivial⟩ (fun A w ga hga hW hblk => wAdd_c _ _ _ _ ga r ps w hblk (hW.atG [0, 1] (G := [_, _]) ⟨rfl, rfl, trivial⟩ rfl ⟨rfl, rfl, rfl, rfl, trivial⟩ [] (Fo := []) trivial rfl) (hW.atG_off z96 hga (ix := [0, 1]) (G := [_, _]) ⟨rfl, rfl, trivial⟩ (jx := []) (Fo := []) trivial) (hbnd _)) ?_
     rintro v cs L ⟨rfl, rfl, qs, hqs, rfl⟩
     refine ⟨⟨(j + 1, qs), by omega, ?_⟩, ?_, by simp only; omega⟩
     · rw [hqs, hps, ← mapOf_snoc, List.take_succ_eq_append_getElem hlj, List.map_append, List.map_cons, List.map_nil, List.append_assoc _ _ [_]]
     · exact weak_mk [0, 1, 2, 3, 4] zw6 zw0 zw6 zw5 zw12 rfl rfl
   have hgj : (s.chans[k]).m.getters.length ≤ j := by simpa using g
   rw [List.take_of_length_le hgj] at hps
   refine ⟨⟨(k + 1, ps, os), by omega, ?_, hos⟩, ?_, by simp only; omega⟩
   · have e : evL evSem 0 s.pure.sems ++ evL evOnce 0 s.pure.onces ++ evL evGroup 0 s.pure.groups ++ evL evBarrier 0 s.pure.barriers ++ evL evChan 0 (s.pure.chans.take (k + 1)) = (evL evSem 0 s.pure.sems ++ evL evOnce 0 s.pure.onces ++ evL evGroup 0 s.pure.groups ++ evL evBarrier 0 s.pure.barriers ++ evL evChan 0 (s.pure.chans.take k) ++ (s.chans[k]).m.senders.map fun x => (x.t, ⟨8, (k : Int), x.v⟩)) ++ (s.chans[k]).m.getters.map fun x => (x, ⟨9, (k : Int), 0⟩) := by rw [hsucc]; simp [evChan]
     show pm ps = mapOf _
     rw [e]; exact hps
   · exact weak_mk [0, 1, 2, 3, 4] zw1 zw0 zw1 zw5 zw3 rfl rfl
 have hge : s.chans.length ≤ k := by simpa using g
 rw [List.take_of_length_le (by rw [len4]; exact hge)] at hps
 exact retw [0, 1, 2, 3] ⟨r, r2, ps, os, rfl, hps, hos, rfl⟩ z112 rfl ⟨rfl, rfl, rfl, rfl, trivial⟩ (fun _ => rfl)
end Go.Proofs.YtjkkoonennpceaaGreat
