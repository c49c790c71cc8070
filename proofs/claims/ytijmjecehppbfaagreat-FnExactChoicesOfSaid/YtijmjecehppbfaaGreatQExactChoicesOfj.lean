/- FnExactChoicesOf: texts that its proof stands on, part 10. -/
import Derived.Test.YtijmjecehppbfaaGreatQExactChoicesOfi
namespace Go.Proofs.YtijmjecehppbfaaGreat
open Go Go.Sx Go.RowKit
set_option maxRecDepth 100000 in
theorem l7Rest_c (p : ProgH) (t c : Int) (k : Nat) (hk : k < p.threads.length) (ht : t = (k : Int)) (w : World) (h : At w [fR (progO p)]) :
   Calls Tryz.prog 107 #[progV p, .int .i64 t, .int .i64 c] w (Ret w fun v L => v = .int .i64 (if c = ((p.threads[k]).m.length : Int) then 3 else 0) ∧ L = []) := by
 refine calls3 Tryz.func107 rfl tabOk w _ rfl _ rfl _ h ⟨rfl, rfl, trivial⟩ _ _ _ (by decide) ?_
 refine stop_idx encOpSH tabOk rfl rfl rfl rfl rfl ⟨rfl, rfl⟩ (rdVia 0 rfl (.trans (.R_R (progO_threads p)) (.ofR nest_h))) k (ht) z45 (fun ad => ?_)
 apply CaseB.mk <;> intro g
 · have q : c = ((p.threads[k]).m.length : Int) := by simpa using g
   exact ret0 ⟨by rw [if_pos q], rfl⟩ (fun _ => rfl)
 · have q : ¬ c = ((p.threads[k]).m.length : Int) := by simpa using g
   exact ret0 ⟨by rw [if_neg q], rfl⟩ (fun _ => rfl)
set_option maxRecDepth 100000 in
theorem newSem_c (n : Int) (h0 : 1 ≤ n) (h1 : n ≤ 9) (w : World) : Calls Tryz.prog 108 #[.int .i64 n] w (Ret w fun v L => ∃ y : Sl, v = .tuple #[semV ⟨n, n, []⟩ y, .bool true] ∧ L = [own y 184 cWaiter 2 ([] : List Waiter)]) := by
 refine calls1 Tryz.func108 rfl tabOk w _ rfl _ rfl [] trivial trivial _ (by decide) ?_
 refine CaseB.mk (fun g => by simp at g; omega) (fun g => ?_)
 refine CaseB.mk (fun g => by simp at g; omega) (fun g => ?_)
 refine AllSl.mk fun y => ?_
 exact retw [0] ⟨y, rfl, rfl⟩ z140 rfl ⟨rfl, trivial⟩ (fun _ => rfl)
set_option maxRecDepth 100000 in
theorem newBarrier_c (n : Int) (h0 : 1 ≤ n) (h1 : n ≤ 6) (w : World) : Calls Tryz.prog 109 #[.int .i64 n] w (Ret w fun v L => ∃ y : Sl, v = .tuple #[barrierV ⟨n, 0, []⟩ y, .bool true] ∧ L = [own y 3 cInt 1 ([] : List Int)]) := by
 refine calls1 Tryz.func109 rfl tabOk w _ rfl _ rfl [] trivial trivial _ (by decide) ?_
 refine CaseB.mk (fun g => by simp at g; omega) (fun g => ?_)
 refine CaseB.mk (fun g => by simp at g; omega) (fun g => ?_)
 refine AllSl.mk fun y => ?_
 exact retw [0] ⟨y, rfl, rfl⟩ z140 rfl ⟨rfl, trivial⟩ (fun _ => rfl)
set_option maxRecDepth 100000 in
theorem newChan_c (n : Int) (h0 : 0 ≤ n) (h1 : n ≤ 4) (w : World) : Calls Tryz.prog 110 #[.int .i64 n] w (Ret w fun v L => ∃ y z u : Sl, v = .tuple #[chanV ⟨n, [], [], [], false⟩ y z u, .bool true] ∧ L = [own y 3 cInt 1 ([] : List Int), own z 187 cLet 2 ([] : List Letter), own u 3 cInt 1 ([] : List Int)]) := by
 refine calls1 Tryz.func110 rfl tabOk w _ rfl _ rfl [] trivial trivial _ (by decide) ?_
 refine CaseB.mk (fun g => by simp at g; omega) (fun g => ?_)
 refine CaseB.mk (fun g => by simp at g; omega) (fun g => ?_)
 refine AllSl.mk fun y => ?_
 refine AllSl.mk fun z => ?_
 refine AllSl.mk fun u => ?_
 exact retw [2, 1, 0] ⟨y, z, u, rfl, rfl⟩ z125 rfl ⟨rfl, rfl, rfl, trivial⟩ (fun _ => rfl)
set_option maxHeartbeats 16000000 in
set_option maxRecDepth 100000 in
theorem startProgS_c (p : ProgH) (w : World) (h : At w [fR (progO p)]) (hs : p.sems.length ≤ 1048576 ∧ p.groups.length ≤ 1048576 ∧ p.barriers.length ≤ 1048576 ∧ p.rooms.length ≤ 1048576) :
   Calls Tryz.prog 46 #[progV p] w (Ret w (Started p.pure)) := by
 refine calls1 Tryz.func46 rfl tabOk w _ rfl _ rfl _ h ⟨rfl, rfl, trivial⟩ _ (by decide) ?_
 refine stop_call _ cl106 rfl rfl rfl rfl ⟨rfl, rfl⟩ (fun A w hW => progValidS_c p w ⟨hW.get 0 rfl (.refl _), trivial⟩ hs) ?_
 rintro v L ⟨b, rfl, hb, rfl⟩
 apply CaseB.mk <;> intro g
 · have hn : ¬ ProgOk p.pure := fun e => by rw [hb.2 e] at g; cases g
   refine ret_shift (.joinO [90] (Gs := [_]) ⟨.inr ⟨Nat.le_of_ble_eq_true rfl, zero_nil⟩, trivial⟩ rfl (G := stateO StateH.zero) (.of_eq (by simp))) ?_
   exact retw [0] ⟨StateH.zero, false, rfl, tno hn, fun e => z100, fun _ => rfl, rfl⟩ z140 rfl ⟨rfl, trivial⟩ (fun _ => rfl)
 have ok := hb.1 z94
 have n4 : p.threads.length ≤ 4 := by have := ok.n4; simpa [ProgH.pure] using this
 have m0 : p.sems.length ≤ 3 := ok.sems.1
 have m1 : p.groups.length ≤ 3 := ok.groups.1
 have m2 : p.barriers.length ≤ 3 := ok.barriers.1
 have m3 : p.rooms.length ≤ 3 := ok.rooms.1
 obtain ⟨LP, hLP⟩ : ∃ l, l = p.threads.map (fun _ => (0 : Int)) := ⟨_, rfl⟩
 obtain ⟨LS, hLS⟩ : ∃ l, l = p.threads.map (fun x => rest x.m) := ⟨_, rfl⟩
 have lP : LP.length = p.threads.length := by rw [hLP]; simp
 have lS : LS.length = p.threads.length := by rw [hLS]; simp
 refine LoopW.mk ⟨{ q : Nat × Sl × Sl // q.1 ≤ p.threads.length },
   fun q => .mk [(1, .p 0 0), (2, .p 1 0), (4, .p 2 0), (5, .v (.int .i64 (q.1.1 : Int)))] 3 0 [(0, 26, 5), (1, 35, 9), (2, 35, 9)]
     [((0, 0), .v (p.h0.val p.sems.length)), ((0, 1), .v (p.h1.val p.groups.length)), ((0, 2), .v (p.h2.val p.barriers.length)), ((0, 3), .v (p.h3.val p.rooms.length)), ((0, 4), .v (p.h4.val p.threads.length)), ((2, 0), .v (q.1.2.1.val (LP.take q.1.1).length)), ((2, 1), .v (q.1.2.2.val (LS.take q.1.1).length)), ((2, 2), .v (.slice none 0 0)), ((2, 3), .v (.slice none 0 0)), ((2, 4), .v (.slice none 0 0)), ((2, 5), .v (.slice none 0 0)), ((2, 6), .v (.slice none 0 0)), ((2, 7), .v (.slice none 0 0)), ((2, 8), .v (.int .i64 0))]
     [own q.1.2.1 3 cInt 1 (LP.take q.1.1), own q.1.2.2 3 cInt 1 (LS.take q.1.1), fR (progO p)],
   fun q => p.threads.length - q.1.1, ⟨(0, ⟨none, 0⟩, ⟨none, 0⟩), Nat.zero_le _⟩, ?_, ?_⟩
 · exact weak_mk [99, 98, 0] zw2 zw0 zw2 zw5 zw4 rfl rfl
 rintro ⟨⟨k, a, s⟩, hk⟩
 simp only at hk
 apply CaseB.mk <;> intro g
 · have hlt : k < p.threads.length := by simpa using g
   have eP : LP.take k ++ [0] = LP.take (k + 1) := by rw [hLP]; exact map_take_succ hlt rfl rfl
   have eS : ∀ x, x = rest (p.threads[k]).m → LS.take k ++ [x] = LS.take (k + 1) := fun x hx => by rw [hLS]; exact map_take_succ hlt rfl hx
   have hw := e_succ k _ hlt (by omega)
   refine AllSl.mk fun u => ?_
   refine stop_app encInt 1 tabOk (ys := [0]) rfl rfl rfl rfl rfl rfl rfl rfl rfl (by decide) ⟨rfl, rfl⟩ rfl z38 z45 z45 (fun a2 => ?_)
   rw [eP]
   have hr : (if (0 : Int) = ((p.threads[k]).m.length : Int) then (3 : Int) else 0) = rest (p.threads[k]).m := by
     simp only [rest]
     by_cases h0 : (p.threads[k]).m.length = 0
     · simp [h0]
     · rw [if_neg h0, if_neg (by omega)]
   refine draw_start tabOk z97 z97 z97 200 [((0, 0), .v (p.h0.val p.sems.length)), ((0, 1), .v (p.h1.val p.groups.length)), ((0, 2), .v (p.h2.val p.barriers.length)), ((0, 3), .v (p.h3.val p.rooms.length)), ((0, 4), .v (p.h4.val p.threads.length))] [3] [_] z113 z130 ⟨rfl, trivial⟩ rfl ?_
   refine BothW.mk ?_ ?_
   all_goals
     refine d_call _ cl107 rfl rfl rfl rfl ⟨rfl, rfl⟩ (fun A w hW => l7Rest_c p _ 0 k hlt rfl w ⟨hW.get 3 rfl (.refl _), trivial⟩) ?_
     rintro v L ⟨rfl, rfl⟩
     rw [hr]
   rotate_left
   · refine BothW.mk ?_ ?_
     all_goals
       refine AllSl.mk fun u2 => ?_
       refine d_app (ti := tiOf tab) encInt 3 tabOk (ys := [rest (p.threads[k]).m]) rfl rfl rfl rfl rfl rfl rfl rfl rfl (by decide) ⟨rfl, rfl⟩ rfl z38 z45 z45 z95 (fun s2 => ?_)
       rw [eS _ rfl]
       refine ⟨⟨(k + 1, a2, s2), by omega⟩, ?_, by simp only; omega⟩
       exact weak_mk [2, 0, 4] zw1 zw0 zw1 zw5 zw3 rfl rfl
   refine AllSl.mk fun u2 => ?_
   refine d_app (ti := tiOf tab) encInt 3 tabOk (ys := [rest (p.threads[k]).m]) rfl rfl rfl rfl rfl rfl rfl rfl rfl (by decide) ⟨rfl, rfl⟩ rfl z38 z45 z45 z95 (fun s2 => ?_)
   rw [eS _ rfl]
   refine ⟨⟨(k + 1, a2, s2), by omega⟩, ?_, by simp only; omega⟩
   exact weak_mk [2, 0, 4] zw1 zw0 zw1 zw5 zw3 rfl rfl
 have hge : p.threads.length ≤ k := by simpa using g
 have eP : LP.take k = LP := List.take_of_length_le (by omega)
 have eS : LS.take k = LS := List.take_of_length_le (by omega)
 refine LoopW.mk ⟨{ q : Nat × Sl × List SemH // q.1 ≤ p.sems.length ∧ q.2.2.map (·.m) = (p.sems.map fun n => (⟨n, n, []⟩ : Sem)).take q.1 },
   fun q => .mk [(1, .p 0 0), (2, .p 1 0), (4, .p 2 0), (6, .v (.int .i64 (q.1.1 : Int)))] 3 0 [(0, 26, 5), (1, 35, 9), (2, 35, 9)]
     [((0, 0), .v (p.h0.val p.sems.length)), ((0, 1), .v (p.h1.val p.groups.length)), ((0, 2), .v (p.h2.val p.barriers.length)), ((0, 3), .v (p.h3.val p.rooms.length)), ((0, 4), .v (p.h4.val p.threads.length)), ((2, 0), .v (a.val LP.length)), ((2, 1), .v (s.val LS.length)), ((2, 2), .v (q.1.2.1.val q.1.2.2.length)), ((2, 3), .v (.slice none 0 0)), ((2, 4), .v (.slice none 0 0)), ((2, 5), .v (.slice none 0 0)), ((2, 6), .v (.slice none 0 0)), ((2, 7), .v (.slice none 0 0)), ((2, 8), .v (.int .i64 0))]
     [own q.1.2.1 95 cSemH 3 q.1.2.2, fO (q.1.2.2.flatMap semO), own a 3 cInt 1 LP, own s 3 cInt 1 LS, fR (progO p)],
   fun q => p.sems.length - q.1.1, ⟨(0, ⟨none, 0⟩, []), Nat.zero_le _, by simp⟩, ?_, ?_⟩
 · refine weak_shift (.joinO [] (Gs := []) trivial rfl (.refl _)) ?_
   exact weak_mk [99, 0, 1, 2, 3] zw14 zw0 zw14 zw5 zw34 rfl rfl
 rintro ⟨⟨k0, c0, l0⟩, hk, hl0⟩
 simp only at hk hl0
 have ln0 : l0.length = k0 := by have := congrArg List.length hl0; simp at this; omega
 apply CaseB.mk <;> intro g
 · have hlt : k0 < p.sems.length := by simpa using g
   have hw := e_succ k0 _ hlt (by omega)
   have hv := ok.sems.2 _ (List.getElem_mem hlt)
   refine stop_idx encInt tabOk rfl rfl rfl rfl rfl ⟨rfl, rfl⟩ (rdVia 4 rfl (.ofR (progO_sems p))) k0 rfl z45 (fun ad => ?_)
   refine stop_call _ cl108 rfl rfl rfl rfl ⟨rfl, rfl⟩ (fun A w hW => newSem_c _ hv.1 hv.2 w) ?_
   rintro v L ⟨y, rfl, rfl⟩
   refine AllSl.mk fun r => ?_
   generalize hx : (⟨⟨p.sems[k0], p.sems[k0], []⟩, y⟩ : SemH) = x
   have hxm : x.m = ⟨p.sems[k0], p.sems[k0], []⟩ := by rw [← hx]
   refine stop_app encSemH 2 tabOk (ys := [x]) rfl rfl rfl rfl rfl (by rw [← hx]; rfl) rfl rfl rfl (by decide) ⟨rfl, rfl⟩ rfl (by rw [← hx]; exact rdOwnAt 0 rfl) z80 z71 (fun c' => ?_)
   refine ⟨⟨(k0 + 1, c', l0 ++ [x]), by omega, by rw [List.map_append]; exact map_take_succ hlt hl0 hxm⟩, ?_, by simp only; omega⟩
   refine weak_shift (.joinO [2, 3] (Gs := [[_], _]) z132 rfl (G := (l0 ++ [x]).flatMap semO) (by subst hx; rw [List.flatMap_append]; exact (List.Perm.of_eq (by simp [semO])).trans List.perm_append_comm)) ?_
   exact weak_mk [1, 0, 3, 4, 5] zw1 zw0 zw1 zw5 zw3 rfl rfl
 have hge0 : p.sems.length ≤ k0 := by simpa using g
 have m0' : l0.map (·.m) = p.sems.map fun n => (⟨n, n, []⟩ : Sem) := by rw [hl0, List.take_of_length_le (by simpa using hge0)]
 refine LoopW.mk ⟨{ q : Nat × Sl // q.1 ≤ 3 },
   fun q => .mk [(1, .p 0 0), (2, .p 1 0), (4, .p 2 0), (9, .v (.int .i64 (q.1.1 : Int)))] 3 0 [(0, 26, 5), (1, 35, 9), (2, 35, 9)]
     [((0, 0), .v (p.h0.val p.sems.length)), ((0, 1), .v (p.h1.val p.groups.length)), ((0, 2), .v (p.h2.val p.barriers.length)), ((0, 3), .v (p.h3.val p.rooms.length)), ((0, 4), .v (p.h4.val p.threads.length)), ((2, 0), .v (a.val LP.length)), ((2, 1), .v (s.val LS.length)), ((2, 2), .v (c0.val l0.length)), ((2, 3), .v (q.1.2.val (List.replicate q.1.1 onceZ).length)), ((2, 4), .v (.slice none 0 0)), ((2, 5), .v (.slice none 0 0)), ((2, 6), .v (.slice none 0 0)), ((2, 7), .v (.slice none 0 0)), ((2, 8), .v (.int .i64 0))]
     [own q.1.2 102 cOnceH 4 (List.replicate q.1.1 onceZ), own c0 95 cSemH 3 l0, fO (l0.flatMap semO), own a 3 cInt 1 LP, own s 3 cInt 1 LS, fR (progO p)],
   fun q => 3 - q.1.1, ⟨(0, ⟨none, 0⟩), Nat.zero_le _⟩, ?_, ?_⟩
 · exact weak_mk [99, 0, 1, 2, 3, 4] zw2 zw0 zw2 zw5 zw4 rfl rfl
 rintro ⟨⟨k1, c1⟩, hk⟩
 simp only at hk
 apply CaseB.mk <;> intro g
 · have hlt : k1 < 3 := by have g' := of_decide_eq_true g; simp only at g'; omega
   have hw := e_succ k1 3 hlt (by omega)
   refine AllSl.mk fun u => ?_
   refine stop_app encOnceH 1 tabOk (ys := [onceZ]) rfl rfl rfl rfl rfl rfl rfl rfl rfl (by decide) ⟨rfl, rfl⟩ rfl z38 z45 z45 (fun c' => ?_)
   rw [← List.replicate_succ']
   refine ⟨⟨(k1 + 1, c'), by omega⟩, ?_, by simp only; omega⟩
   exact weak_mk [0, 2, 3, 4, 5, 6] zw1 zw0 zw1 zw5 zw3 rfl rfl
 have hge1 : k1 = 3 := by have g' := of_decide_eq_false g; simp only at g'; omega
 have e1 : List.replicate k1 onceZ = [onceZ, onceZ, onceZ] := by rw [hge1]; rfl
 obtain ⟨L2, hL2⟩ : ∃ l, l = p.groups.map (fun n => (⟨⟨n, []⟩, ⟨none, 0⟩⟩ : GroupH)) := ⟨_, rfl⟩
 have lenL2 : L2.length = p.groups.length := by rw [hL2]; simp
 refine LoopW.mk ⟨{ q : Nat × Sl // q.1 ≤ p.groups.length },
   fun q => .mk [(1, .p 0 0), (2, .p 1 0), (4, .p 2 0), (10, .v (.int .i64 (q.1.1 : Int)))] 3 0 [(0, 26, 5), (1, 35, 9), (2, 35, 9)]
     [((0, 0), .v (p.h0.val p.sems.length)), ((0, 1), .v (p.h1.val p.groups.length)), ((0, 2), .v (p.h2.val p.barriers.length)), ((0, 3), .v (p.h3.val p.rooms.length)), ((0, 4), .v (p.h4.val p.threads.length)), ((2, 0), .v (a.val LP.length)), ((2, 1), .v (s.val LS.length)), ((2, 2), .v (c0.val l0.length)), ((2, 3), .v (c1.val [onceZ, onceZ, onceZ].length)), ((2, 4), .v (q.1.2.val (L2.take q.1.1).length)), ((2, 5), .v (.slice none 0 0)), ((2, 6), .v (.slice none 0 0)), ((2, 7), .v (.slice none 0 0)), ((2, 8), .v (.int .i64 0))]
     [own q.1.2 108 cGroupH 2 (L2.take q.1.1), own c1 102 cOnceH 4 [onceZ, onceZ, onceZ], own c0 95 cSemH 3 l0, fO (l0.flatMap semO), own a 3 cInt 1 LP, own s 3 cInt 1 LS, fR (progO p)],
   fun q => p.groups.length - q.1.1, ⟨(0, ⟨none, 0⟩), Nat.zero_le _⟩, ?_, ?_⟩
 · exact weak_mk [99, 0, 1, 2, 3, 4, 5] zw16 zw0 zw16 zw5 zw35 rfl rfl
 rintro ⟨⟨k2, c2⟩, hk⟩
 simp only at hk
 apply CaseB.mk <;> intro g
 · have hlt : k2 < p.groups.length := by simpa using g
   have e : ∀ x, x = (⟨⟨p.groups[k2], []⟩, ⟨none, 0⟩⟩ : GroupH) → L2.take k2 ++ [x] = L2.take (k2 + 1) := fun x hx => by rw [hL2]; exact map_take_succ hlt rfl hx
   have hw := e_succ k2 _ hlt (by omega)
   refine draw_start tabOk z97 z97 z97 200 [((0, 0), .v (p.h0.val p.sems.length)), ((0, 1), .v (p.h1.val p.groups.length)), ((0, 2), .v (p.h2.val p.barriers.length)), ((0, 3), .v (p.h3.val p.rooms.length)), ((0, 4), .v (p.h4.val p.threads.length))] [6] [_] z113 z130 ⟨rfl, trivial⟩ rfl ?_
   refine d_idx (ti := tiOf tab) encInt tabOk rfl rfl rfl rfl rfl ⟨rfl, rfl⟩ (rdVia 0 rfl (.ofR (progO_groups p))) k2 rfl z45 (fun ad => ?_)
   refine BothW.mk ?_ ?_
   all_goals
     refine AllSl.mk fun u => ?_
     refine d_app (ti := tiOf tab) encGroupH 1 tabOk (ys := [⟨⟨p.groups[k2], []⟩, ⟨none, 0⟩⟩]) rfl rfl rfl rfl rfl rfl rfl rfl rfl (by decide) ⟨rfl, rfl⟩ rfl z38 z45 z45 z95 (fun c' => ?_)
     rw [e _ rfl]
     refine ⟨⟨(k2 + 1, c'), by omega⟩, ?_, by simp only; omega⟩
     exact weak_mk [0, 2, 3, 4, 5, 6, 7] zw1 zw0 zw1 zw5 zw3 rfl rfl
 have hge2 : p.groups.length ≤ k2 := by simpa using g
 have e2 : L2.take k2 = L2 := List.take_of_length_le (by omega)
 refine LoopW.mk ⟨{ q : Nat × Sl × List BarrierH // q.1 ≤ p.barriers.length ∧ q.2.2.map (·.m) = (p.barriers.map fun n => (⟨n, 0, []⟩ : Barrier)).take q.1 },
   fun q => .mk [(1, .p 0 0), (2, .p 1 0), (4, .p 2 0), (11, .v (.int .i64 (q.1.1 : Int)))] 3 0 [(0, 26, 5), (1, 35, 9), (2, 35, 9)]
     [((0, 0), .v (p.h0.val p.sems.length)), ((0, 1), .v (p.h1.val p.groups.length)), ((0, 2), .v (p.h2.val p.barriers.length)), ((0, 3), .v (p.h3.val p.rooms.length)), ((0, 4), .v (p.h4.val p.threads.length)), ((2, 0), .v (a.val LP.length)), ((2, 1), .v (s.val LS.length)), ((2, 2), .v (c0.val l0.length)), ((2, 3), .v (c1.val [onceZ, onceZ, onceZ].length)), ((2, 4), .v (c2.val L2.length)), ((2, 5), .v (q.1.2.1.val q.1.2.2.length)), ((2, 6), .v (.slice none 0 0)), ((2, 7), .v (.slice none 0 0)), ((2, 8), .v (.int .i64 0))]
     [own q.1.2.1 114 cBarrierH 3 q.1.2.2, fO (q.1.2.2.flatMap barrierO), own c2 108 cGroupH 2 L2, own c1 102 cOnceH 4 [onceZ, onceZ, onceZ], own c0 95 cSemH 3 l0, fO (l0.flatMap semO), own a 3 cInt 1 LP, own s 3 cInt 1 LS, fR (progO p)],
   fun q => p.barriers.length - q.1.1, ⟨(0, ⟨none, 0⟩, []), Nat.zero_le _, by simp⟩, ?_, ?_⟩
 · refine weak_shift (.joinO [] (Gs := []) trivial rfl (.refl _)) ?_
   exact weak_mk [99, 0, 1, 2, 3, 4, 5, 6, 7] zw17 zw0 zw17 zw5 zw36 rfl rfl
 rintro ⟨⟨k3, c3, l3⟩, hk, hl3⟩
 simp only at hk hl3
 have ln3 : l3.length = k3 := by have := congrArg List.length hl3; simp at this; omega
 apply CaseB.mk <;> intro g
 · have hlt : k3 < p.barriers.length := by simpa using g
   have hw := e_succ k3 _ hlt (by omega)
   have hv := ok.barriers.2 _ (List.getElem_mem hlt)
   refine stop_idx encInt tabOk rfl rfl rfl rfl rfl ⟨rfl, rfl⟩ (rdVia 8 rfl (.ofR (progO_barriers p))) k3 rfl z45 (fun ad => ?_)
   refine stop_call _ cl109 rfl rfl rfl rfl ⟨rfl, rfl⟩ (fun A w hW => newBarrier_c _ hv.1 hv.2 w) ?_
   rintro v L ⟨y, rfl, rfl⟩
   refine AllSl.mk fun r => ?_
   generalize hx : (⟨⟨p.barriers[k3], 0, []⟩, y⟩ : BarrierH) = x
   have hxm : x.m = ⟨p.barriers[k3], 0, []⟩ := by rw [← hx]
   refine stop_app encBarrierH 2 tabOk (ys := [x]) rfl rfl rfl rfl rfl (by rw [← hx]; rfl) rfl rfl rfl (by decide) ⟨rfl, rfl⟩ rfl (by rw [← hx]; exact rdOwnAt 0 rfl) z80 z71 (fun c' => ?_)
   refine ⟨⟨(k3 + 1, c', l3 ++ [x]), by omega, by rw [List.map_append]; exact map_take_succ hlt hl3 hxm⟩, ?_, by simp only; omega⟩
   refine weak_shift (.joinO [2, 3] (Gs := [[_], _]) z132 rfl (G := (l3 ++ [x]).flatMap barrierO) (by subst hx; rw [List.flatMap_append]; exact (List.Perm.of_eq (by simp [barrierO])).trans List.perm_append_comm)) ?_
   exact weak_mk [1, 0, 3, 4, 5, 6, 7, 8, 9] zw1 zw0 zw1 zw5 zw3 rfl rfl
 have hge3 : p.barriers.length ≤ k3 := by simpa using g
 have m3' : l3.map (·.m) = p.barriers.map fun n => (⟨n, 0, []⟩ : Barrier) := by rw [hl3, List.take_of_length_le (by simpa using hge3)]
 refine LoopW.mk ⟨{ q : Nat × Sl × List ChanH // q.1 ≤ p.rooms.length ∧ q.2.2.map (·.m) = (p.rooms.map fun n => (⟨n, [], [], [], false⟩ : Chan)).take q.1 },
   fun q => .mk [(1, .p 0 0), (2, .p 1 0), (4, .p 2 0), (14, .v (.int .i64 (q.1.1 : Int)))] 3 0 [(0, 26, 5), (1, 35, 9), (2, 35, 9)]
     [((0, 0), .v (p.h0.val p.sems.length)), ((0, 1), .v (p.h1.val p.groups.length)), ((0, 2), .v (p.h2.val p.barriers.length)), ((0, 3), .v (p.h3.val p.rooms.length)), ((0, 4), .v (p.h4.val p.threads.length)), ((2, 0), .v (a.val LP.length)), ((2, 1), .v (s.val LS.length)), ((2, 2), .v (c0.val l0.length)), ((2, 3), .v (c1.val [onceZ, onceZ, onceZ].length)), ((2, 4), .v (c2.val L2.length)), ((2, 5), .v (c3.val l3.length)), ((2, 6), .v (q.1.2.1.val q.1.2.2.length)), ((2, 7), .v (.slice none 0 0)), ((2, 8), .v (.int .i64 0))]
     [own q.1.2.1 119 cChanH 5 q.1.2.2, fO (q.1.2.2.flatMap chanO), own c3 114 cBarrierH 3 l3, fO (l3.flatMap barrierO), own c2 108 cGroupH 2 L2, own c1 102 cOnceH 4 [onceZ, onceZ, onceZ], own c0 95 cSemH 3 l0, fO (l0.flatMap semO), own a 3 cInt 1 LP, own s 3 cInt 1 LS, fR (progO p)],
   fun q => p.rooms.length - q.1.1, ⟨(0, ⟨none, 0⟩, []), Nat.zero_le _, by simp⟩, ?_, ?_⟩
 · refine weak_shift (.joinO [] (Gs := []) trivial rfl (.refl _)) ?_
   exact weak_mk [99, 0, 1, 2, 3, 4, 5, 6, 7, 8, 9] zw2 zw0 zw2 zw5 zw4 rfl rfl
 rintro ⟨⟨k4, c4, l4⟩, hk, hl4⟩
 simp only at hk hl4
 have ln4 : l4.length = k4 := by have := congrArg List.length hl4; simp at this; omega
 apply CaseB.mk <;> intro g
 · have hlt : k4 < p.rooms.length := by simpa using g
   have hw := e_succ k4 _ hlt (by omega)
   have hv := ok.rooms.2 _ (List.getElem_mem hlt)
   refine stop_idx encInt tabOk rfl rfl rfl rfl rfl ⟨rfl, rfl⟩ (rdVia 10 rfl (.ofR (progO_rooms p))) k4 rfl z45 (fun ad => ?_)
   refine stop_call _ cl110 rfl rfl rfl rfl ⟨rfl, rfl⟩ (fun A w hW => newChan_c _ hv.1 hv.2 w) ?_
   rintro v L ⟨y, z, u, rfl, rfl⟩
   refine AllSl.mk fun r => ?_
   generalize hx : (⟨⟨p.rooms[k4], [], [], [], false⟩, y, z, u⟩ : ChanH) = x
   have hxm : x.m = ⟨p.rooms[k4], [], [], [], false⟩ := by rw [← hx]
   refine stop_app encChanH 4 tabOk (ys := [x]) rfl rfl rfl rfl rfl (by rw [← hx]; rfl) rfl rfl rfl (by decide) ⟨rfl, rfl⟩ rfl (by rw [← hx]; exact rdOwnAt 0 rfl) z80 z71 (fun c' => ?_)
   refine ⟨⟨(k4 + 1, c', l4 ++ [x]), by omega, by rw [List.map_append]; exact map_take_succ hlt hl4 hxm⟩, ?_, by simp only; omega⟩
   refine weak_shift (.joinO [2, 3, 4, 5] (Gs := [[_], [_], [_], _]) z117 rfl (G := (l4 ++ [x]).flatMap chanO) (by subst hx; rw [List.flatMap_append]; exact (List.Perm.of_eq (by simp [chanO])).trans List.perm_append_comm)) ?_
   exact weak_mk [1, 0, 3, 4, 5, 6, 7, 8, 9, 10, 11] zw1 zw0 zw1 zw5 zw3 rfl rfl
 have hge4 : p.rooms.length ≤ k4 := by simpa using g
 have m4' : l4.map (·.m) = p.rooms.map fun n => (⟨n, [], [], [], false⟩ : Chan) := by rw [hl4, List.take_of_length_le (by simpa using hge4)]
 generalize hy : (⟨LP, LS, l0, [onceZ, onceZ, onceZ], L2, l3, l4, [], 0, a, s, c0, c1, c2, c3, c4, ⟨none, 0⟩⟩ : StateH) = Y
 have nil1 : ∀ g ∈ L2.flatMap groupO, nilFact g := nilOf fun x hx g hg => by
   rw [hL2] at hx; obtain ⟨n, _, rfl⟩ := List.mem_map.1 hx; simp [groupO] at hg; subst hg; exact ⟨rfl, rfl, rfl, rfl⟩
 have nil4 : ∀ g ∈ [onceZ, onceZ, onceZ].flatMap onceO, nilFact g := nilOf fun x hx g hg => by
   simp at hx; subst hx; simp [onceO, onceZ] at hg; subst hg; exact ⟨rfl, rfl, rfl, rfl⟩
 have nil5 : ∀ g ∈ [own ⟨none, 0⟩ 3 cInt 1 ([] : List Int)], nilFact g := fun g hg => by
   simp at hg; subst hg; exact ⟨rfl, rfl, rfl, rfl⟩
 refine ret_shift (.joinO [8, 9, 6, 7, 5, 90, 4, 91, 2, 3, 0, 1, 92] (Gs := [[_], [_], [_], _, [_], _, [_], _, [_], _, [_], _, _])
   ⟨.inl ⟨_, rfl, .own⟩, .inl ⟨_, rfl, .own⟩, .inl ⟨_, rfl, .own⟩, .inl ⟨_, rfl, .o⟩, .inl ⟨_, rfl, .own⟩, .inr ⟨Nat.le_of_ble_eq_true rfl, nil4⟩, .inl ⟨_, rfl, .own⟩, .inr ⟨Nat.le_of_ble_eq_true rfl, nil1⟩, .inl ⟨_, rfl, .own⟩, .inl ⟨_, rfl, .o⟩, .inl ⟨_, rfl, .own⟩, .inl ⟨_, rfl, .o⟩, .inr ⟨Nat.le_of_ble_eq_true rfl, nil5⟩, trivial⟩ rfl (G := stateO Y) (.of_eq z59)) ?_
 have hYp : Y.pure = start p.pure := by
   rw [← hy]
   simp only [StateH.pure, start, ProgH.pure, hLP, hLS, hL2, m0', m3', m4']
   simp [onceZ]
 exact retw [0] ⟨Y, true, by rw [← hy], tyes ok, fun _ => hYp, fun e => z100, rfl⟩ z140 rfl ⟨rfl, trivial⟩ (fun _ => rfl)
theorem within_small {xs : List Int} {lo hi : Int} (h : within xs lo hi) : xs.length ≤ 1048576 := Nat.le_trans h.1 (by decide)
theorem start_small {p : Prog} (ok : ProgOk p) : (start p).small20 := by
 have h1 := within_small ok.sems
 have h2 := within_small ok.groups
 have h3 := within_small ok.barriers
 have h4 := within_small ok.rooms
 have h5 := ok.n4
 refine ⟨by simp [start]; omega, by simp [start]; omega, ⟨by simp [start]; omega, ?_⟩, ⟨by simp [start], ?_⟩, ⟨by simp [start]; omega, ?_⟩, ⟨by simp [start]; omega, ?_⟩, ⟨by simp [start]; omega, ?_⟩, by simp [start]⟩
 · intro x hx; obtain ⟨n, _, rfl⟩ := List.mem_map.1 hx; simp [Sem.small20]
 · intro x hx; simp [start] at hx; subst hx; simp [Once.small20]
 · intro x hx; obtain ⟨n, _, rfl⟩ := List.mem_map.1 hx; simp [Group.small20]
 · intro x hx; obtain ⟨n, _, rfl⟩ := List.mem_map.1 hx; simp [Barrier.small20]
 · intro x hx; obtain ⟨n, _, rfl⟩ := List.mem_map.1 hx; simp [Chan.small20]
theorem zero_small20 : State.zero.small20 := by
 refine ⟨by simp [State.zero], by simp [State.zero], ⟨by simp [State.zero], ?_⟩, ⟨by simp [State.zero], ?_⟩, ⟨by simp [State.zero], ?_⟩, ⟨by simp [State.zero], ?_⟩, ⟨by simp [State.zero], ?_⟩, by simp [State.zero]⟩
 all_goals
   intro x hx
   simp [State.zero] at hx
theorem Started.one (p : Prog) : ∃ (S : State) (c : Bool), S.small20 ∧ ∀ (y : StateH) (b : Bool), (b = true ↔ ProgOk p) → (b = true → y.pure = start p) → (b = false → y.pure = State.zero) → y.pure = S ∧ b = c := by
 by_cases ok : ProgOk p
 · refine ⟨start p, true, start_small ok, fun y b h1 h2 _ => ?_⟩
   have := h1.2 ok
   exact ⟨h2 this, this⟩
 · refine ⟨State.zero, false, zero_small20, fun y b h1 _ h3 => ?_⟩
   cases b with
   | true => exact (ok (h1.1 rfl)).elim
   | false => exact ⟨h3 rfl, rfl⟩
theorem prog_small {a : ProgH} (h : a.pure.small20) : a.sems.length ≤ 1048576 ∧ a.groups.length ≤ 1048576 ∧ a.barriers.length ≤ 1048576 ∧ a.rooms.length ≤ 1048576 := ⟨h.1, h.2.1, h.2.2.1, h.2.2.2.1⟩
theorem d_callV {E : Env} {o : Oper} {Ms : List ((Nat × Nat) × SV)} {Fs : List Fct} {next : St → Prop} {T : List (Nat × SV)} {n c : Nat} {B : List (Nat × TypeId × Nat)} {M : List ((Nat × Nat) × SV)} {F : List Fct}
   (R : Value → List Fct → Prop) {k : Call} {fo : Operand} {g : FuncId} {cap : Array Value} {l : List SV} {d : Nat} (hc : callable E.P g = true)
   (hop : o.op = .call k) (hk : k.callee = .value fo) (hf : evalO T fo = some (.v (.func (.func g) #[] cap))) (ha : evalOs T k.args.toList = some l) (hd : Dst E o d)
   (hcall : ∀ A w, WD E A n B M F w → Calls E.P g ((l.map (SV.den A)) ++ cap.toList).toArray w (Ret w R))
   (hnext : ∀ v L, R v L → next (.mk ((d, .v v) :: T) n (c + 1) B M (L ++ F))) :
   OpW (opD E o Ms Fs next T n c B M F) := by
 refine ⟨opD0.up fun hkf A a w hW hT => ?_⟩
 have hargs : (k.args.map a.eval).toList = l.map (SV.den A) := by rw [Array.toList_map]; exact evalOs_sound hT ha
 have hfv := (evalO_sound hT hf).1
 have hr : (execOp a.eval o).run E.P w = .ok (.enter g ((l.map (SV.den A)) ++ cap.toList).toArray) w := by
   have hcat : (k.args.map a.eval) ++ cap = ((l.map (SV.den A)) ++ cap.toList).toArray := by
     apply Array.ext'; rw [Array.toList_append, hargs]
   simp only [execOp, hop, resolve, hk, Sem.run_bind, hfv, SV.den, Deferred.ofValue, Sem.run_pure, Result.andThen_ok, Array.empty_append, invoke, hcat, run_callFunc hc]
 unfold Oper.wp
 rw [hr, Oper.upon_enter]
 refine (hcall A w hW).mono ?_
 rintro e w' ⟨v, L, rfl, he, hL, hR⟩
 refine ⟨_, _, _, hW.learn he hL, fun w2 => ?_, fun f hf => List.mem_append_right _ (hkf f hf), hnext v L hR⟩
 rw [hd.1]
 exact (hT.step w2).put (v := .v v) hd.lt trivial
open Classical in
noncomputable def replayM (p : Prog) : State → List Int → Option State
 | s, [] => some s
 | s, t :: r => if StepOk p s t then replayM p (doM p s t) r else none
open Classical in
theorem replayM_snoc (p : Prog) : ∀ (s : State) (tr : List Int) (t : Int), replayM p s (tr ++ [t]) = match replayM p s tr with | none => none | some s' => if StepOk p s' t then some (doM p s' t) else none
 | s, [], t => by simp [replayM]
 | s, x :: r, t => by
   simp only [List.cons_append, replayM]
   by_cases h : StepOk p s x
   · simp only [if_pos h]; exact replayM_snoc p _ r t
   · simp only [if_neg h]
theorem replayM_none (p : Prog) : ∀ (s : State) (a b : List Int), replayM p s a = none → replayM p s (a ++ b) = none
 | s, [], b, h => by simp [replayM] at h
 | s, x :: r, b, h => by
   simp only [List.cons_append, replayM] at h ⊢
   split at h
   · rename_i hx; rw [if_pos hx]; exact replayM_none p _ r b h
   · rename_i hx; rw [if_neg hx]
open Classical in
noncomputable def replayP (p : Prog) (tc : List Int) : Option State := if ProgOk p ∧ tc.length ≤ 100 then replayM p (start p) tc else none
def runV (y : StateH) (z : Sl) (n : Nat) : Value := .agg #[y.h0.val y.places.length, y.h1.val y.status.length, y.h2.val y.sems.length, y.h3.val y.onces.length, y.h4.val y.groups.length, y.h5.val y.barriers.length, y.h6.val y.chans.length, y.h7.val y.said.length, .int .i64 y.fault, z.val n]
def RunR (S : Option State) (v : Value) (L : List Fct) : Prop := ∃ (y : StateH) (z : Sl) (tr : List Int) (b : Bool), v = .tuple #[runV y z tr.length, .bool b] ∧ (b = true ↔ S.isSome = true) ∧ (b = true → S = some y.pure) ∧ L = [fO (stateO y), own z 3 cInt 1 tr]
set_option maxRecDepth 100000 in
theorem choose_c (y : StateH) (z yr : Sl) (n m : Nat) (q : Sl) (tc : List Int) (ga : Nat) (w : World) (h : At w [slo q cInt 1 tc, fVar ga 23 [q.val tc.length]]) (hn : n ≤ tc.length) (_hl : tc.length ≤ 100) :
   Calls Tryz.prog 113 #[runV y z n, yr.val m, .pointer (some ⟨ga, 0, none⟩)] w (Ret w fun v L => ∃ (t : Int) (b : Bool), v = .tuple #[.int .i64 t, .bool b] ∧ (b = true ↔ n < tc.length) ∧ (∀ hlt : n < tc.length, t = tc[n]) ∧ L = []) := by
 refine calls3 Tryz.func113 rfl tabOk w _ rfl _ rfl _ h ⟨rfl, rfl, rfl, rfl, trivial⟩ _ _ _ (by decide) ?_
 refine stop_loadV 1 tabOk rfl rfl rfl rfl rfl ⟨rfl, rfl⟩ ?_
 apply CaseB.mk <;> intro g
 · have e : ¬ n < tc.length := by have g' : (n : Int) = (tc.length : Int) := z94; omega
   exact ret0 ⟨_, _, rfl, tno e, fun hlt => (e hlt).elim, rfl⟩ (fun _ => rfl)
 have e : n < tc.length := by have g' : ¬ (n : Int) = (tc.length : Int) := z94; omega
 refine stop_loadV 1 tabOk rfl rfl rfl rfl rfl ⟨rfl, rfl⟩ ?_
 refine stop_idx encInt tabOk rfl rfl rfl rfl rfl ⟨rfl, rfl⟩ z38 n rfl z45 (fun ad => ?_)
 exact ret0 ⟨_, _, rfl, tyes e, fun _ => rfl, rfl⟩ (fun _ => rfl)
set_option maxHeartbeats 32000000 in
set_option maxRecDepth 100000 in
theorem walk_c (p : ProgH) (q : Sl) (tc : List Int) (ga : Nat) (w : World) (h : At w [fR (progO p), slo q cInt 1 tc, fVar ga 23 [q.val tc.length]]) (hp : p.pure.small20) (hl : tc.length ≤ 100) :
   Calls Tryz.prog 44 #[progV p, .func (.func 113) #[] #[.pointer (some ⟨ga, 0, none⟩)]] w (Ret w (RunR (replayP p.pure tc))) := by
 refine calls2 Tryz.func44 rfl tabOk w _ rfl _ rfl _ h z137 _ _ (by decide) ?_
 refine stop_call _ cl104 rfl rfl rfl rfl ⟨rfl, rfl⟩ (fun A w hW => startProg_c p w ⟨hW.get 0 rfl (.refl _), trivial⟩ (prog_small hp)) ?_
 rintro v L ⟨y0, b0, rfl, i1, i2, i3, rfl⟩
 apply CaseB.mk <;> intro g
 · have e : b0 = false := by simpa using g
   have n : replayP p.pure tc = none := by
     rw [replayP, if_neg]
     rintro ⟨ok, _⟩
     rw [i1.2 ok] at e; cases e
   refine ret_shift (.joinO [90] (Gs := [_]) ⟨.inr ⟨Nat.le_of_ble_eq_true rfl, zero_nil⟩, trivial⟩ rfl (G := stateO StateH.zero) (.of_eq (by simp))) ?_
   rw [n]
   exact retw [0, 99] ⟨StateH.zero, nil4, [], false, rfl, by simp, fun e => z100, rfl⟩ z123 rfl ⟨rfl, rfl, trivial⟩ (fun _ => rfl)
 have e : b0 = true := by simpa using g
 have ok := i1.1 e
 have hst := i2 e
 have hR : replayP p.pure tc = replayM p.pure (start p.pure) tc := by rw [replayP, if_pos ⟨ok, hl⟩]
 rw [hR]
 refine LoopW.mk ⟨{ q : Nat × StateH × Sl // q.1 ≤ tc.length ∧ replayM p.pure (start p.pure) (tc.take q.1) = some q.2.1.pure ∧ q.2.1.pure.small20 },
   fun u => .mk [(1, .v (.func (.func 113) #[] #[.pointer (some ⟨ga, 0, none⟩)])), (2, .p 0 0), (4, .p 1 0), (8, .p 3 0)] 4 0 [(0, 26, 5), (1, 37, 10), (3, 37, 10)] [((0, 0), .v (p.h0.val p.sems.length)), ((0, 1), .v (p.h1.val p.groups.length)), ((0, 2), .v (p.h2.val p.barriers.length)), ((0, 3), .v (p.h3.val p.rooms.length)), ((0, 4), .v (p.h4.val p.threads.length)), ((3, 0), .v (u.1.2.1.h0.val u.1.2.1.places.length)), ((3, 1), .v (u.1.2.1.h1.val u.1.2.1.status.length)), ((3, 2), .v (u.1.2.1.h2.val u.1.2.1.sems.length)), ((3, 3), .v (u.1.2.1.h3.val u.1.2.1.onces.length)), ((3, 4), .v (u.1.2.1.h4.val u.1.2.1.groups.length)), ((3, 5), .v (u.1.2.1.h5.val u.1.2.1.barriers.length)), ((3, 6), .v (u.1.2.1.h6.val u.1.2.1.chans.length)), ((3, 7), .v (u.1.2.1.h7.val u.1.2.1.said.length)), ((3, 8), .v (.int .i64 u.1.2.1.fault)), ((3, 9), .v (u.1.2.2.val (tc.take u.1.1).length))] [fO (stateO u.1.2.1), own u.1.2.2 3 cInt 1 (tc.take u.1.1), fR (progO p), slo q cInt 1 tc, fVar ga 23 [q.val tc.length]],
   fun u => tc.length - u.1.1, ⟨(0, y0, nil4), Nat.zero_le _, by simp [replayM, hst], by rw [hst]; exact start_small ok⟩, ?_, ?_⟩
 · exact weak_mk [0, 99, 1, 2, 3] zw2 zw0 zw2 zw5 zw4 rfl rfl
 rintro ⟨⟨k, y, z⟩, hk, hy, hys⟩
 simp only at hk hy hys ⊢
 have hb : y.status.length ≤ 1048576 := hys.2.1
 have hkl : (tc.take k).length = k := by simp; omega
 refine draw_start tabOk z97 z97 z97 200 [((3, 0), .v (y.h0.val y.places.length)), ((3, 1), .v (y.h1.val y.status.length)), ((3, 2), .v (y.h2.val y.sems.length)), ((3, 3), .v (y.h3.val y.onces.length)), ((3, 4), .v (y.h4.val y.groups.length)), ((3, 5), .v (y.h5.val y.barriers.length)), ((3, 6), .v (y.h6.val y.chans.length)), ((3, 7), .v (y.h7.val y.said.length)), ((3, 8), .v (.int .i64 y.fault)), ((3, 9), .v (z.val (tc.take k).length))] [] [] z103 z114 trivial rfl ?_
 refine d_call _ cl58 rfl rfl rfl rfl ⟨rfl, rfl⟩ (fun A w hW => ready_c y w ⟨hW.get 0 rfl (.O_R fun _ h => h), trivial⟩ hb) ?_
 rintro v L ⟨yr, rfl, rfl⟩
 refine d_callV _ cl113 rfl rfl rfl rfl ⟨rfl, rfl⟩ (fun A w hW => choose_c y z yr (tc.take k).length _ q tc ga w ⟨hW.get 4 rfl (.refl _), hW.get 5 rfl (.refl _), trivial⟩ (by omega) hl) ?_
 rintro v L ⟨t, b1, rfl, hb1, ht, rfl⟩
 apply CaseB.mk <;> intro g
 · have hkt : ¬ k < tc.length := fun h => by rw [hkl] at hb1; rw [hb1.2 h] at g; cases g
   have hte : tc.take k = tc := List.take_of_length_le (by omega)
   rw [hte] at hy
   refine draw_start tabOk z97 z97 z97 200 [((3, 0), .v (y.h0.val y.places.length)), ((3, 1), .v (y.h1.val y.status.length)), ((3, 2), .v (y.h2.val y.sems.length)), ((3, 3), .v (y.h3.val y.onces.length)), ((3, 4), .v (y.h4.val y.groups.length)), ((3, 5), .v (y.h5.val y.barriers.length)), ((3, 6), .v (y.h6.val y.chans.length)), ((3, 7), .v (y.h7.val y.said.length)), ((3, 8), .v (.int .i64 y.fault)), ((3, 9), .v (z.val (tc.take k).length))] [] [] z103 z114 trivial rfl ?_
   refine d_call _ cl64 rfl rfl rfl rfl ⟨rfl, rfl⟩ (fun A w hW => stateClone_c y w ⟨hW.get 1 rfl (.O_R fun _ h => h), trivial⟩ hys) ?_
   rintro v L ⟨y2, rfl, hy2, rfl⟩
   refine d_call _ cl105 rfl rfl rfl rfl ⟨rfl, rfl⟩ (fun A w hW => cloneInts_c z (tc.take k) w ⟨hW.rdOwn 3 rfl, trivial⟩ (by omega)) ?_
   rintro v L ⟨z2, rfl, rfl⟩
   rw [hy]
   exact retw [1, 0] ⟨y2, z2, tc.take k, true, rfl, by simp, fun _ => by rw [hy2], rfl⟩ z133 rfl ⟨rfl, rfl, trivial⟩ (fun _ => rfl)
 have hkt : k < tc.length := by rw [hkl] at hb1; exact hb1.1 z94
 have htt : t = tc[k] := by have := ht (by rw [hkl]; exact hkt); rw [this]; simp [hkl]
 refine stop_call _ cl28 rfl rfl rfl rfl ⟨rfl, rfl⟩ (fun A w hW => stepThread_c p y t w ⟨hW.get 3 rfl (.refl _), hW.get 1 rfl (.O_R fun _ h => h), trivial⟩ hp hys) ?_
 rintro v L ⟨y3, b2, rfl, j1, j2, j3, rfl⟩
 have hsp : tc.take (k + 1) = tc.take k ++ [t] := by rw [htt]; exact List.take_succ_eq_append_getElem hkt
 apply CaseB.mk <;> intro g
 · have n : replayM p.pure (start p.pure) tc = none := by
     have e : b2 = false := by simpa using g
     have hn : ¬ StepOk p.pure y.pure t := fun h => by rw [j1.2 h] at e; cases e
     have h1 : replayM p.pure (start p.pure) (tc.take (k + 1)) = none := by
       rw [hsp, replayM_snoc, hy]; simp only [if_neg hn]
     have := replayM_none p.pure (start p.pure) (tc.take (k + 1)) (tc.drop (k + 1)) h1
     rwa [List.take_append_drop] at this
   refine ret_shift (.joinO [90] (Gs := [_]) ⟨.inr ⟨Nat.le_of_ble_eq_true rfl, zero_nil⟩, trivial⟩ rfl (G := stateO StateH.zero) (.of_eq (by simp))) ?_
   rw [n]
   exact retw [0, 99] ⟨StateH.zero, nil4, [], false, rfl, by simp, fun e => z100, rfl⟩ z123 rfl ⟨rfl, rfl, trivial⟩ (fun _ => rfl)
 have e2 : b2 = true := by simpa using g
 have hok := j1.1 e2
 have hy3 := j2 e2
 refine draw_start tabOk z97 z97 z97 200 [((4, 0), .v (y3.h0.val y3.places.length)), ((4, 1), .v (y3.h1.val y3.status.length)), ((4, 2), .v (y3.h2.val y3.sems.length)), ((4, 3), .v (y3.h3.val y3.onces.length)), ((4, 4), .v (y3.h4.val y3.groups.length)), ((4, 5), .v (y3.h5.val y3.barriers.length)), ((4, 6), .v (y3.h6.val y3.chans.length)), ((4, 7), .v (y3.h7.val y3.said.length)), ((4, 8), .v (.int .i64 y3.fault))] [] [] z105 z115 trivial rfl ?_
 refine BothW.mk ?_ ?_
 all_goals
   refine AllSl.mk fun zk => ?_
   refine d_app (ti := tiOf tab) encInt 4 tabOk (xs := tc.take k) (ys := [t]) rfl rfl rfl rfl rfl rfl rfl rfl rfl (by decide) ⟨rfl, rfl⟩ rfl z38 z45 z45 z95 (fun z2 => ?_)
   refine ⟨⟨(k + 1, y3, z2), hkt, by rw [hsp, replayM_snoc, hy]; simp only [if_pos hok, hy3], by rw [hy3]; exact hok.2.2.2.small⟩, ?_, by simp only; omega⟩
   refine weak_mk [2, 0, 5, 6, 7] ?_ ?_ ?_ ?_ ?_ rfl rfl
   · exact zw25
   · exact zw0
   · exact zw25
   · exact zw5
   · repeat (first | exact trivial | refine ⟨.inl ⟨_, rfl, (by first | rfl | ((first | (rw [hsp]; done) | (simp only [hsp]; done))))⟩, ?_⟩ | refine ⟨.inr z136, ?_⟩)
set_option maxHeartbeats 4000000 in
set_option maxRecDepth 100000 in
theorem replay_c (p : ProgH) (q : Sl) (tc : List Int) (w : World) (h : At w [fR (progO p), slo q cInt 1 tc]) (hp : p.pure.small20) :
   Calls Tryz.prog 56 #[progV p, q.val tc.length] w (Ret w (RunR (replayP p.pure tc))) := by
 refine calls2 Tryz.func56 rfl tabOk w _ rfl _ rfl _ h ⟨rfl, rfl, rfl, rfl, trivial⟩ _ _ (by decide) ?_
 apply CaseB.mk <;> intro g
 · have n : replayP p.pure tc = none := by
     rw [replayP, if_neg]
     rintro ⟨_, h⟩
     have g' := of_decide_eq_true g
     omega
   refine ret_shift (.joinO [90] (Gs := [_]) ⟨.inr ⟨Nat.le_of_ble_eq_true rfl, zero_nil⟩, trivial⟩ rfl (G := stateO StateH.zero) (.of_eq (by simp))) ?_
   rw [n]
   exact retw [0, 99] ⟨StateH.zero, nil4, [], false, rfl, by simp, fun e => z100, rfl⟩ z123 rfl ⟨rfl, rfl, trivial⟩ (fun _ => rfl)
 have hl : tc.length ≤ 100 := by have g' := of_decide_eq_false g; omega
 refine stop_call _ cl44 rfl rfl rfl rfl ⟨rfl, rfl⟩ (fun A w hW => walk_c p q tc (A 1) w ⟨hW.get 0 rfl (.refl _), hW.get 1 rfl (.refl _), hW.var rfl rfl, trivial⟩ hp hl) ?_
 rintro v L ⟨y, z, tr, b, rfl, i1, i2, rfl⟩
 exact retw [0, 1] ⟨y, z, tr, b, rfl, i1, i2, rfl⟩ z133 rfl ⟨rfl, rfl, trivial⟩ (fun _ => rfl)
end Go.Proofs.YtijmjecehppbfaaGreat
namespace Go.Proofs.YtijmjecehppbfaaGreat
open Go Go.Sx Go.RowKit
set_option maxRecDepth 100000 in
theorem l1Copy_c (m : Sem) (q : Sl) (w : World) (h : At w [slo q cWaiter 2 m.queue]) (hb : m.queue.length ≤ 1048576) :
   Calls Tryz.prog 142 #[semV m q] w (Ret w fun v L => ∃ y : Sl, v = semV m y ∧ L = [own y 184 cWaiter 2 m.queue]) := by
 refine calls1 Tryz.func142 rfl tabOk w _ rfl _ rfl _ h ⟨rfl, rfl, trivial⟩ _ (by decide) ?_
 refine draw_start tabOk z97 z97 z97 200 [((0, 0), .v (.int .i64 m.free)), ((0, 1), .v (.int .i64 m.limit)), ((0, 2), .v (q.val m.queue.length))] [0] [_] z126 z138 ⟨rfl, trivial⟩ rfl ?_
 repeat' ((conv => whnf); (first
   | refine BothW.mk ?_ ?_
   | refine AllSl.mk fun y => ?_
   | (refine opd_app rfl rfl ?_; refine d_appK (ti := tiOf tab) encWaiter tabOk (xs := ([] : List Waiter)) rfl rfl rfl rfl rfl rfl rfl rfl rfl (by decide) ⟨rfl, rfl⟩ z41 z38 z45 z45 z95 (fun y => ?_))
   | fail))
 exact retw [0] ⟨_, rfl, rfl⟩ z140 rfl ⟨rfl, trivial⟩ (fun _ => rfl)
set_option maxRecDepth 100000 in
theorem l2Once_c (m : Once) (q : Sl) (w : World) (h : At w [slo q cInt 1 m.waits]) (hb : m.waits.length ≤ 1048576) :
   Calls Tryz.prog 143 #[onceV m q] w (Ret w fun v L => ∃ y : Sl, v = onceV m y ∧ L = [own y 3 cInt 1 m.waits]) := by
 refine calls1 Tryz.func143 rfl tabOk w _ rfl _ rfl _ h ⟨rfl, rfl, trivial⟩ _ (by decide) ?_
 refine draw_start tabOk z97 z97 z97 200 [((0, 0), .v (.int .i64 m.state)), ((0, 1), .v (.int .i64 m.owner)), ((0, 2), .v (.int .i64 m.value)), ((0, 3), .v (q.val m.waits.length))] [0] [_] z119 z134 ⟨rfl, trivial⟩ rfl ?_
 repeat' ((conv => whnf); (first
   | refine BothW.mk ?_ ?_
   | refine AllSl.mk fun y => ?_
   | (refine opd_app rfl rfl ?_; refine d_appK (ti := tiOf tab) encInt tabOk (xs := ([] : List Int)) rfl rfl rfl rfl rfl rfl rfl rfl rfl (by decide) ⟨rfl, rfl⟩ z41 z38 z45 z45 z95 (fun y => ?_))
   | fail))
 exact retw [0] ⟨_, rfl, rfl⟩ z140 rfl ⟨rfl, trivial⟩ (fun _ => rfl)
set_option maxHeartbeats 4000000 in
set_option maxRecDepth 100000 in
theorem acquireS_c (m : Sem) (q : Sl) (t n : Int) (w : World) (h : At w [slo q cWaiter 2 m.queue]) (ok : SemOk m) (ht : isThread t = true) (hn : t ∉ m.queue.map (·.t)) (h1 : 1 ≤ n) (h2 : n ≤ m.limit) :
   Calls Tryz.prog 133 #[semV m q, .int .i64 t, .int .i64 n] w (Ret w (AcqR (m.acquire t n))) := by
 have hb := ok.q6
 have l9 := ok.l9
 have fl := ok.fl
 refine calls3 Tryz.func133 rfl tabOk w _ rfl _ rfl _ h ⟨rfl, rfl, trivial⟩ _ _ _ (by decide) ?_
 refine stop_call _ cl169 rfl rfl rfl rfl ⟨rfl, rfl⟩ (fun A w hW => semValidS_c m q w ⟨z37, trivial⟩ (by omega)) ?_
 rintro v L ⟨b, rfl, hbb, rfl⟩
 obtain rfl : b = true := hbb.2 ok
 refine CaseB.mk (fun g => by simp at g) (fun _ => ?_)
 refine stop_call _ cl170 rfl rfl rfl rfl ⟨rfl, rfl⟩ (fun A w hW => l1Thread_c _ w) ?_
 rintro v L ⟨rfl, rfl⟩
 refine CaseB.mk (fun g => by rw [ht] at g; simp at g) (fun _ => ?_)
 refine CaseB.mk (fun g => by have g' := of_decide_eq_true g; omega) (fun _ => ?_)
 refine CaseB.mk (fun g => by have g' := of_decide_eq_true g; omega) (fun _ => ?_)
 refine stop_call _ cl171 rfl rfl rfl rfl ⟨rfl, rfl⟩ (fun A w hW => l1Find_c q m.queue t w ⟨z37, trivial⟩ (by omega)) ?_
 rintro v L ⟨a, rfl, ha, rfl⟩
 have ha0 : ¬ 0 ≤ a := fun h => hn ((atM_mem _ _).1 (ha ▸ h))
 refine CaseB.mk (fun g => by have g' := of_decide_eq_true g; exact (ha0 g').elim) (fun _ => ?_)
 refine stop_call _ cl142 rfl rfl rfl rfl ⟨rfl, rfl⟩ (fun A w hW => l1Copy_c m q w ⟨z37, trivial⟩ (by omega)) ?_
 rintro v L ⟨y, rfl, rfl⟩
 have hac : ¬ (m.queue = [] ∧ n ≤ m.free) → m.acquire t n = ({ m with queue := m.queue ++ [⟨t, n⟩] }, false) := fun h => by rw [Sem.acquire, if_neg h]
 apply CaseB.mk <;> intro g
 · have hq : m.queue = [] := List.eq_nil_of_length_eq_zero (by have g' := of_decide_eq_true g; omega)
   apply CaseB.mk <;> intro g
   · have hf : n ≤ m.free := by simpa using g
     have hw := wrap_sub (a := m.free) (b := n) (by omega) (by omega)
     have e : m.acquire t n = ({ m with free := m.free - n }, true) := by rw [Sem.acquire, if_pos ⟨hq, hf⟩]
     rw [e]
     exact retw [0] ⟨y, rfl, rfl⟩ ⟨.inl ⟨_, rfl, z77⟩, trivial⟩ rfl ⟨rfl, trivial⟩ (fun _ => z77)
   · have hf : ¬ n ≤ m.free := by simpa using g
     rw [hac fun h => hf h.2]
     refine AllSl.mk fun z => ?_
     refine stop_appK encWaiter tabOk (ys := [⟨t, n⟩]) rfl rfl rfl rfl rfl rfl rfl rfl rfl (by decide) ⟨rfl, rfl⟩ z41 z38 z45 z45 (fun y2 => ?_)
     exact retw [0] ⟨y2, rfl, rfl⟩ z140 rfl ⟨rfl, trivial⟩ (fun _ => rfl)
 · have hq : ¬ m.queue = [] := fun e => by rw [e] at g; simp at g
   rw [hac fun h => hq h.1]
   refine AllSl.mk fun z => ?_
   refine stop_appK encWaiter tabOk (ys := [⟨t, n⟩]) rfl rfl rfl rfl rfl rfl rfl rfl rfl (by decide) ⟨rfl, rfl⟩ z41 z38 z45 z45 (fun y2 => ?_)
   exact retw [0] ⟨y2, rfl, rfl⟩ z140 rfl ⟨rfl, trivial⟩ (fun _ => rfl)
structure HandZ (f0 : Int) (Q : List Waiter) where
 f : Int
 R : List Waiter
 G : List Int
 q : Sl
 y : Sl
 h : handL f0 Q = ((handL f R).1, G ++ (handL f R).2.1, (handL f R).2.2)
 l0 : 0 ≤ f
 l1 : f ≤ f0
 c : ∀ x ∈ R, 1 ≤ x.n
 n : R.length + G.length = Q.length
set_option maxHeartbeats 8000000 in
set_option maxRecDepth 100000 in
theorem l1Serve_c (m : Sem) (q : Sl) (w : World) (h : At w [slo q cWaiter 2 m.queue]) (hb : m.queue.length ≤ 100) (hf0 : 0 ≤ m.free) (hf9 : m.free ≤ 100) (hc : ∀ x ∈ m.queue, 1 ≤ x.n) :
   Calls Tryz.prog 172 #[semV m q] w (Ret w fun v L => ∃ y z : Sl, v = .tuple #[semV ⟨(handL m.free m.queue).1, m.limit, (handL m.free m.queue).2.2⟩ y, z.val (handL m.free m.queue).2.1.length] ∧ L = [own y 184 cWaiter 2 (handL m.free m.queue).2.2, own z 3 cInt 1 (handL m.free m.queue).2.1]) := by
 refine calls1 Tryz.func172 rfl tabOk w _ rfl _ rfl _ h ⟨rfl, rfl, trivial⟩ _ (by decide) ?_
 refine stop_call _ cl142 rfl rfl rfl rfl ⟨rfl, rfl⟩ (fun A w hW => l1Copy_c m q w ⟨z37, trivial⟩ (by omega)) ?_
 rintro v L ⟨y1, rfl, rfl⟩
 refine AllSl.mk fun z0 => ?_
 refine LoopW.mk ⟨HandZ m.free m.queue,
   fun y => .mk [(2, .p 1 0), (4, .p 2 0), (5, .v (y.y.val y.G.length))] 3 0 [(1, 95, 3), (2, 95, 3)] [((2, 0), .v (.int .i64 y.f)), ((2, 1), .v (.int .i64 m.limit)), ((2, 2), .v (y.q.val y.R.length))] [own y.q 184 cWaiter 2 y.R, own y.y 3 cInt 1 y.G],
   fun y => y.R.length, ⟨m.free, m.queue, [], y1, z0, by simp, hf0, by omega, hc, by simp⟩, ?_, ?_⟩
 · exact weak_mk [1, 0] zw2 zw0 zw2 zw5 zw4 rfl rfl
 · rintro ⟨f, R, G, q, y, hh, l0, l1, hcR, hn⟩
   simp only
   have fin : (¬ ∃ h0 : 0 < R.length, R[0].n ≤ f) → handL m.free m.queue = (f, G, R) := fun hn => by
     rw [hh, handL_no (fun h0 hle => hn ⟨h0, hle⟩)]; simp
   refine draw_start tabOk z97 z97 z97 200 [((2, 0), .v (.int .i64 f)), ((2, 2), .v (q.val R.length))] [0] [_] z135 z143 ⟨rfl, trivial⟩ rfl ?_
   refine CaseB.mk (fun h1 => ?_) (fun h1 => ?_)
   · have h0 : 0 < R.length := by simpa using h1
     refine d_idx (ti := tiOf tab) encWaiter tabOk rfl rfl rfl rfl rfl ⟨rfl, rfl⟩ (rdVia 0 rfl (Rd.own (o := false) (o' := false))) 0 rfl z45 (fun ad => ?_)
     refine CaseB.mk (fun h2 => ?_) (fun h2 => ?_)
     · have hle : R[0].n ≤ f := by simpa using h2
       have he := handL_yes h0 hle
       have hw := wrap_sub (a := f) (b := R[0].n) (by omega) (by have := hcR R[0] (List.getElem_mem h0); omega)
       have hn1 := hcR R[0] (List.getElem_mem h0)
       refine draw_start tabOk z97 z97 z97 200 [((2, 2), .v (q.val R.length))] [0] [_] z142 z146 ⟨rfl, trivial⟩ rfl ?_
       refine d_idx (ti := tiOf tab) encWaiter tabOk rfl rfl rfl rfl rfl ⟨rfl, rfl⟩ (rdVia 0 rfl (Rd.own (o := false) (o' := false))) 0 rfl z45 (fun ad => ?_)
       refine stop_idx encWaiter tabOk rfl rfl rfl rfl rfl ⟨rfl, rfl⟩ (rdVia 0 rfl (Rd.own (o := false) (o' := false))) 0 rfl z45 (fun ad2 => ?_)
       refine AllSl.mk fun z1 => ?_
       refine stop_appK encInt tabOk (xs := G) (ys := [R[0].t]) rfl rfl rfl rfl rfl rfl rfl rfl rfl (by decide) ⟨rfl, rfl⟩ z41 z38 z45 z45 (fun y2 => ?_)
       refine AllSl.mk fun z2 => ?_
       refine stop_cut tabOk rfl rfl rfl rfl ⟨rfl, rfl⟩ rfl rfl z38 (1) (R.length) ((R.drop 1)).length rfl rfl z45 z45 z45 ?_
       refine stop_appK encWaiter tabOk (xs := []) rfl rfl rfl rfl rfl rfl rfl rfl rfl (by decide) ⟨rfl, rfl⟩ z41 (rdDrop encWaiter 1 (by omega) z38) z45 z45 (fun q2 => ?_)
       refine ⟨⟨f - R[0].n, R.drop 1, G ++ [R[0].t], q2, y2, by rw [hh, he]; simp, by omega, by omega, fun x hx => hcR x (List.mem_of_mem_drop hx), by simp; omega⟩, ?_, by simp; omega⟩
       exact weak_mk [0, 1] zw1 zw0 zw1 zw5 zw3 rfl rfl
     · have hle : ¬ R[0].n ≤ f := by simpa using h2
       have he := fin fun ⟨_, h⟩ => hle h
       rw [he]
       exact retw [0, 1] ⟨q, y, rfl, rfl⟩ z133 rfl ⟨rfl, rfl, trivial⟩ (fun _ => rfl)
   · have h0 : ¬ 0 < R.length := by simpa using h1
     have he := fin fun ⟨h, _⟩ => h0 h
     rw [he]
     exact retw [0, 1] ⟨q, y, rfl, rfl⟩ z133 rfl ⟨rfl, rfl, trivial⟩ (fun _ => rfl)
set_option maxHeartbeats 4000000 in
set_option maxRecDepth 100000 in
theorem releaseS_c (m : Sem) (q : Sl) (n : Int) (w : World) (h : At w [slo q cWaiter 2 m.queue]) (ok : SemOk m) (h1 : 1 ≤ n) (h2 : n ≤ m.limit) :
   Calls Tryz.prog 134 #[semV m q, .int .i64 n] w (Ret w (RelR (m.release n))) := by
 have hb := ok.q6
 have l9 := ok.l9
 have fl := ok.fl
 have f0 := ok.f0
 refine calls2 Tryz.func134 rfl tabOk w _ rfl _ rfl _ h ⟨rfl, rfl, trivial⟩ _ _ (by decide) ?_
 refine stop_call _ cl169 rfl rfl rfl rfl ⟨rfl, rfl⟩ (fun A w hW => semValidS_c m q w ⟨z37, trivial⟩ (by omega)) ?_
 rintro v L ⟨b, rfl, hbb, rfl⟩
 obtain rfl : b = true := hbb.2 ok
 refine CaseB.mk (fun g => by simp at g) (fun _ => ?_)
 refine CaseB.mk (fun g => by have g' := of_decide_eq_true g; omega) (fun _ => ?_)
 have hw := wrap_sub (a := m.limit) (b := m.free) (by omega) (by omega)
 apply CaseB.mk <;> intro g
 · rw [hw] at g
   have hn : ¬ n ≤ m.limit - m.free := by have g' := of_decide_eq_true g; omega
   rw [Sem.release, if_neg hn]
   refine AllSl.mk fun z => ?_
   exact ret0 ⟨nil4, z, rfl, rfl⟩ (fun _ => rfl)
 rw [hw] at g
 have hn : n ≤ m.limit - m.free := by have g' := of_decide_eq_false g; omega
 rw [Sem.release, if_pos hn]
 refine stop_call _ cl142 rfl rfl rfl rfl ⟨rfl, rfl⟩ (fun A w hW => l1Copy_c m q w ⟨z37, trivial⟩ (by omega)) ?_
 rintro v L ⟨y, rfl, rfl⟩
 have hw2 := wrap_add (a := m.free) (b := n) (by omega) (by omega)
 refine stop_call _ cl172 rfl rfl rfl rfl ⟨rfl, rfl⟩ (fun A w hW => l1Serve_c ⟨IntKind.i64.wrap (m.free + n), m.limit, m.queue⟩ y w ⟨z37, trivial⟩ (by simp only; omega) (by simp only [hw2]; omega) (by simp only [hw2]; omega) (fun x hx => (ok.cnt x hx).1)) ?_
 simp only [hw2]
 rintro v L ⟨q2, z, rfl, rfl⟩
 exact retw [0, 1] ⟨q2, z, rfl, rfl⟩ z133 rfl ⟨rfl, rfl, trivial⟩ (fun _ => rfl)
set_option maxHeartbeats 4000000 in
set_option maxRecDepth 100000 in
theorem enterS_c (m : Once) (q : Sl) (t : Int) (w : World) (h : At w [slo q cInt 1 m.waits]) (ok : OnceOk m) (ht : isThread t = true) (hn : t ∉ m.waits) (ho : m.state = 1 → m.owner ≠ t) :
   Calls Tryz.prog 174 #[onceV m q, .int .i64 t] w (Ret w (EntR (m.enter t))) := by
 have hb := onceOk_len ok
 refine calls2 Tryz.func174 rfl tabOk w _ rfl _ rfl _ h ⟨rfl, rfl, trivial⟩ _ _ (by decide) ?_
 refine stop_call _ cl180 rfl rfl rfl rfl ⟨rfl, rfl⟩ (fun A w hW => onceValidS_c m q w ⟨z37, trivial⟩ (by omega)) ?_
 rintro v L ⟨b, rfl, hbb, rfl⟩
 obtain rfl : b = true := hbb.2 ok
 refine CaseB.mk (fun g => by simp at g) (fun _ => ?_)
 refine stop_call _ cl170 rfl rfl rfl rfl ⟨rfl, rfl⟩ (fun A w hW => l1Thread_c _ w) ?_
 rintro v L ⟨rfl, rfl⟩
 refine CaseB.mk (fun g => by rw [ht] at g; simp at g) (fun _ => ?_)
 refine stop_call _ cl143 rfl rfl rfl rfl ⟨rfl, rfl⟩ (fun A w hW => l2Once_c m q w ⟨z37, trivial⟩ (by omega)) ?_
 rintro v L ⟨y, rfl, rfl⟩
 apply CaseB.mk <;> intro g
 · have e0 : m.state = 0 := by simpa using g
   rw [Once.enter, if_pos e0]
   exact retw [99] ⟨nil4, rfl, rfl⟩ z128 rfl ⟨rfl, trivial⟩ (fun _ => rfl)
 have e0 : ¬ m.state = 0 := by simpa using g
 rw [Once.enter, if_neg e0]
 apply CaseB.mk <;> intro g
 · have e2 : m.state = 2 := by simpa using g
   rw [if_neg (by omega)]
   exact retw [0] ⟨y, rfl, rfl⟩ z140 rfl ⟨rfl, trivial⟩ (fun _ => rfl)
 have e2 : ¬ m.state = 2 := by simpa using g
 have e1 : m.state = 1 := by
   rcases ok with h | h | h
   · exact (e0 h.1).elim
   · exact h.1
   · exact (e2 h.1).elim
 rw [if_pos e1]
 have hno := ho e1
 refine CaseB.mk (fun g => by exact (hno (by have g' : t = m.owner := z94; exact g'.symm)).elim) (fun _ => ?_)
 refine stop_call _ cl54 rfl rfl rfl rfl ⟨rfl, rfl⟩ (fun A w hW => l2At_c q m.waits t w ⟨z37, trivial⟩ (by omega)) ?_
 rintro v L ⟨rfl, rfl⟩
 refine CaseB.mk (fun g => by have g' := of_decide_eq_true g; exact (hn ((atM_mem _ _).1 g')).elim) (fun _ => ?_)
 refine AllSl.mk fun z => ?_
 refine stop_appK encInt tabOk (ys := [t]) rfl rfl rfl rfl rfl rfl rfl rfl rfl (by decide) ⟨rfl, rfl⟩ z41 z38 z45 z45 (fun y2 => ?_)
 exact retw [0] ⟨y2, rfl, rfl⟩ z140 rfl ⟨rfl, trivial⟩ (fun _ => rfl)
set_option maxHeartbeats 4000000 in
set_option maxRecDepth 100000 in
theorem finishS_c (m : Once) (q : Sl) (t u : Int) (w : World) (h : At w [slo q cInt 1 m.waits]) (ok : OnceOk m) (h1 : m.state = 1) (ho : m.owner = t) (hv : isValue u = true) :
   Calls Tryz.prog 173 #[onceV m q, .int .i64 t, .int .i64 u] w (Ret w (FinR (m.finish t u))) := by
 have hb := onceOk_len ok
 refine calls3 Tryz.func173 rfl tabOk w _ rfl _ rfl _ h ⟨rfl, rfl, trivial⟩ _ _ _ (by decide) ?_
 refine stop_call _ cl184 rfl rfl rfl rfl ⟨rfl, rfl⟩ (fun A w hW => runs_c m q t w ⟨z37, trivial⟩ (by omega)) ?_
 rintro v L ⟨b, rfl, hbb, rfl⟩
 obtain rfl : b = true := hbb.2 ⟨ok, h1, ho⟩
 refine CaseB.mk (fun g => by simp at g) (fun _ => ?_)
 refine stop_call _ cl146 rfl rfl rfl rfl ⟨rfl, rfl⟩ (fun A w hW => l2Value_c _ w) ?_
 rintro v L ⟨rfl, rfl⟩
 refine CaseB.mk (fun g => by simp [hv] at g) (fun _ => ?_)
 refine AllSl.mk fun z => ?_
 refine stop_appK encInt tabOk (xs := []) rfl rfl rfl rfl rfl rfl rfl rfl rfl (by decide) ⟨rfl, rfl⟩ z41 z38 z45 z45 (fun y => ?_)
 exact retw [99, 0] ⟨nil4, y, rfl, rfl⟩ z122 rfl ⟨rfl, rfl, trivial⟩ (fun _ => rfl)
set_option maxHeartbeats 4000000 in
set_option maxRecDepth 100000 in
theorem addS_c (m : Group) (q : Sl) (n : Int) (w : World) (h : At w [slo q cInt 1 m.waits]) (ok : GroupOk m) (h1 : -9 ≤ n) (h9 : n ≤ 9) :
   Calls Tryz.prog 137 #[groupV m q, .int .i64 n] w (Ret w (AddR (m.add n))) := by
 have hb := groupOk_len ok
 have hv : 0 ≤ m.count ∧ m.count ≤ 99 := by have := ok.1; simp [isValue] at this; omega
 have hw : IntKind.i64.wrap (m.count + n) = m.count + n := by rw [IntKind.wrap_i64]; omega
 refine calls2 Tryz.func137 rfl tabOk w _ rfl _ rfl _ h ⟨rfl, rfl, trivial⟩ _ _ (by decide) ?_
 refine stop_call _ cl175 rfl rfl rfl rfl ⟨rfl, rfl⟩ (fun A w hW => groupValidS_c m q w ⟨z37, trivial⟩ (by omega)) ?_
 rintro v L ⟨b, rfl, hbb, rfl⟩
 obtain rfl : b = true := hbb.2 ok
 refine CaseB.mk (fun g => by simp at g) (fun _ => ?_)
 refine CaseB.mk (fun g => by have g' := of_decide_eq_true g; omega) (fun _ => ?_)
 refine CaseB.mk (fun g => by have g' := of_decide_eq_true g; omega) (fun _ => ?_)
 refine stop_call _ cl146 rfl rfl rfl rfl ⟨rfl, rfl⟩ (fun A w hW => l2Value_c _ w) ?_
 rw [hw]
 rintro v L ⟨rfl, rfl⟩
 apply CaseB.mk <;> intro g
 · have hn : ¬ isValue (m.count + n) = true := by simpa using g
   rw [Group.add, if_neg hn]
   refine AllSl.mk fun z => ?_
   exact ret0 ⟨nil4, z, rfl, rfl⟩ (fun _ => rfl)
 have hn : isValue (m.count + n) = true := by simpa using g
 rw [Group.add, if_pos hn]
 apply CaseB.mk <;> intro g
 · rw [hw] at g
   have h0 : m.count + n = 0 := by simpa using g
   rw [if_pos h0]
   refine AllSl.mk fun z => ?_
   refine stop_appK encInt tabOk (xs := []) rfl rfl rfl rfl rfl rfl rfl rfl rfl (by decide) ⟨rfl, rfl⟩ z41 z38 z45 z45 (fun y => ?_)
   exact retw [99, 0] ⟨nil4, y, rfl, rfl⟩ z122 rfl ⟨rfl, rfl, trivial⟩ (fun _ => rfl)
 rw [hw] at g
 have h0 : ¬ m.count + n = 0 := by simpa using g
 rw [if_neg h0]
 refine AllSl.mk fun z => ?_
 refine stop_appK encInt tabOk (xs := []) rfl rfl rfl rfl rfl rfl rfl rfl rfl (by decide) ⟨rfl, rfl⟩ z41 z38 z45 z45 (fun y => ?_)
 refine AllSl.mk fun z2 => ?_
 exact retw [1, 0] ⟨y, z2, rfl, rfl⟩ ⟨.inl ⟨_, rfl, z74⟩, .inl ⟨_, rfl, z74⟩, trivial⟩ rfl ⟨rfl, rfl, trivial⟩ (fun _ => z74)
set_option maxHeartbeats 4000000 in
set_option maxRecDepth 100000 in
theorem waitS_c (m : Group) (q : Sl) (t : Int) (w : World) (h : At w [slo q cInt 1 m.waits]) (ok : GroupOk m) (ht : isThread t = true) (hn : t ∉ m.waits) :
   Calls Tryz.prog 138 #[groupV m q, .int .i64 t] w (Ret w (WaiR (m.wait t))) := by
 have hb := groupOk_len ok
 refine calls2 Tryz.func138 rfl tabOk w _ rfl _ rfl _ h ⟨rfl, rfl, trivial⟩ _ _ (by decide) ?_
 refine stop_call _ cl175 rfl rfl rfl rfl ⟨rfl, rfl⟩ (fun A w hW => groupValidS_c m q w ⟨z37, trivial⟩ (by omega)) ?_
 rintro v L ⟨b, rfl, hbb, rfl⟩
 obtain rfl : b = true := hbb.2 ok
 refine CaseB.mk (fun g => by simp at g) (fun _ => ?_)
 refine stop_call _ cl170 rfl rfl rfl rfl ⟨rfl, rfl⟩ (fun A w hW => l1Thread_c _ w) ?_
 rintro v L ⟨rfl, rfl⟩
 refine CaseB.mk (fun g => by rw [ht] at g; simp at g) (fun _ => ?_)
 refine stop_call _ cl54 rfl rfl rfl rfl ⟨rfl, rfl⟩ (fun A w hW => l2At_c q m.waits t w ⟨z37, trivial⟩ (by omega)) ?_
 rintro v L ⟨rfl, rfl⟩
 refine CaseB.mk (fun g => by have g' := of_decide_eq_true g; exact (hn ((atM_mem _ _).1 g')).elim) (fun _ => ?_)
 refine draw_cut Sl (fun y => .mk [(1, .v (.int .i64 t)), (2, .p 0 0), (4, .p 1 0), (7, .p 2 0)] 3 0 [(0, 108, 2), (1, 108, 2), (2, 108, 2)] [((0, 0), .v (.int .i64 m.count)), ((2, 0), .v (.int .i64 m.count)), ((2, 1), .v (y.val m.waits.length))] [own y 3 cInt 1 m.waits]) ?_ ?_
 · refine draw_start tabOk z97 z97 z97 200 [((0, 0), .v (.int .i64 m.count)), ((0, 1), .v (q.val m.waits.length))] [0] [_] z135 z143 ⟨rfl, trivial⟩ rfl ?_
   repeat' ((conv => whnf); (first
     | refine BothW.mk ?_ ?_
     | refine AllSl.mk fun y => ?_
     | (refine opd_app rfl rfl ?_; refine d_appK (ti := tiOf tab) encInt tabOk (xs := ([] : List Int)) rfl rfl rfl rfl rfl rfl rfl rfl rfl (by decide) ⟨rfl, rfl⟩ z41 z38 z45 z45 z95 (fun y => ?_))
     | fail))
   all_goals
     refine ⟨y, ?_⟩
     exact weak_mk [0] zw2 zw0 zw2 zw5 zw4 rfl rfl
 intro y
 apply CaseB.mk <;> intro g
 · have h0 : m.count = 0 := by simpa using g
   have hw0 : m.waits = [] := by
     rcases ok.2.2 with h | h
     · omega
     · exact h
   rw [Group.wait, if_pos h0]
   exact retw [0] ⟨y, rfl, rfl⟩ ⟨.inl ⟨_, rfl, z46⟩, trivial⟩ rfl ⟨rfl, trivial⟩ (fun _ => z46)
 have h0 : ¬ m.count = 0 := by simpa using g
 rw [Group.wait, if_neg h0]
 refine AllSl.mk fun z => ?_
 refine stop_appK encInt tabOk (ys := [t]) rfl rfl rfl rfl rfl rfl rfl rfl rfl (by decide) ⟨rfl, rfl⟩ z41 z38 z45 z45 (fun y2 => ?_)
 exact retw [0] ⟨y2, rfl, rfl⟩ z140 rfl ⟨rfl, trivial⟩ (fun _ => rfl)
set_option maxHeartbeats 4000000 in
set_option maxRecDepth 100000 in
theorem arriveS_c (m : Barrier) (q : Sl) (t : Int) (w : World) (h : At w [slo q cInt 1 m.waits]) (ok : BarrierOk m) (ht : isThread t = true) (hn : t ∉ m.waits) :
   Calls Tryz.prog 139 #[barrierV m q, .int .i64 t] w (Ret w (ArrR (m.arrive t))) := by
 have hb := barrierOk_len ok
 obtain ⟨p1, p6, r0, r9, wl, dis⟩ := ok
 have hw : IntKind.i64.wrap (m.round + 1) = m.round + 1 := by rw [IntKind.wrap_i64]; omega
 refine calls2 Tryz.func139 rfl tabOk w _ rfl _ rfl _ h ⟨rfl, rfl, trivial⟩ _ _ (by decide) ?_
 refine stop_call _ cl176 rfl rfl rfl rfl ⟨rfl, rfl⟩ (fun A w hW => barrierValidS_c m q w ⟨z37, trivial⟩ (by omega)) ?_
 rintro v L ⟨b, rfl, hbb, rfl⟩
 obtain rfl : b = true := hbb.2 ⟨p1, p6, r0, r9, wl, dis⟩
 refine CaseB.mk (fun g => by simp at g) (fun _ => ?_)
 refine stop_call _ cl170 rfl rfl rfl rfl ⟨rfl, rfl⟩ (fun A w hW => l1Thread_c _ w) ?_
 rintro v L ⟨rfl, rfl⟩
 refine CaseB.mk (fun g => by rw [ht] at g; simp at g) (fun _ => ?_)
 refine stop_call _ cl54 rfl rfl rfl rfl ⟨rfl, rfl⟩ (fun A w hW => l2At_c q m.waits t w ⟨z37, trivial⟩ (by omega)) ?_
 rintro v L ⟨rfl, rfl⟩
 refine CaseB.mk (fun g => by have g' := of_decide_eq_true g; exact (hn ((atM_mem _ _).1 g')).elim) (fun _ => ?_)
 refine AllSl.mk fun z => ?_
 refine stop_appK encInt tabOk (xs := []) rfl rfl rfl rfl rfl rfl rfl rfl rfl (by decide) ⟨rfl, rfl⟩ z41 z38 z45 z45 (fun y => ?_)
 refine AllSl.mk fun z2 => ?_
 refine stop_appK encInt tabOk (xs := m.waits) (ys := [t]) rfl rfl rfl rfl rfl rfl rfl rfl rfl (by decide) ⟨rfl, rfl⟩ z41 z38 z45 z45 (fun y2 => ?_)
 have hl : (m.waits ++ [t]).length = m.waits.length + 1 := by simp
 apply CaseB.mk <;> intro g
 · have h0 : (m.waits.length : Int) + 1 < m.parties := by have g' := of_decide_eq_true g; rw [hl] at g'; omega
   rw [Barrier.arrive, if_pos h0]
   refine AllSl.mk fun z3 => ?_
   exact retw [1, 0] ⟨y2, z3, rfl, rfl⟩ z133 rfl ⟨rfl, rfl, trivial⟩ (fun _ => rfl)
 have h0 : ¬ (m.waits.length : Int) + 1 < m.parties := by have g' := of_decide_eq_false g; rw [hl] at g'; omega
 rw [Barrier.arrive, if_neg h0]
 apply CaseB.mk <;> intro g
 · have h9 : m.round = 9999 := by simpa using g
   rw [if_pos h9]
   refine AllSl.mk fun z3 => ?_
   exact ret0 ⟨z3, rfl, rfl⟩ (fun _ => rfl)
 have h9 : ¬ m.round = 9999 := by simpa using g
 rw [if_neg h9]
 refine AllSl.mk fun z3 => ?_
 exact retw [0, 1] ⟨z3, y2, rfl, rfl⟩ ⟨.inl ⟨_, rfl, z73⟩, .inl ⟨_, rfl, z73⟩, trivial⟩ rfl ⟨rfl, rfl, trivial⟩ (fun _ => z73)
set_option maxRecDepth 100000 in
theorem l7Stop_c (y : StateH) (f : Int) (w : World) :
   Calls Tryz.prog 135 #[stateV y, .int .i64 f] w (Ret w fun v L => v = stateV { y with fault := f } ∧ L = []) := by
 refine calls2 Tryz.func135 rfl tabOk w _ rfl _ rfl [] trivial trivial _ _ (by decide) ?_
 exact ret0 ⟨rfl, rfl⟩ (fun _ => rfl)
def stV (y : StateH) (n m : Nat) (zs : Sl) (ln : Nat) : Value := .agg #[y.h0.val n, y.h1.val m, y.h2.val y.sems.length, y.h3.val y.onces.length, y.h4.val y.groups.length, y.h5.val y.barriers.length, y.h6.val y.chans.length, zs.val ln, .int .i64 y.fault]
set_option maxHeartbeats 16000000 in
set_option maxRecDepth 100000 in
theorem l7On_c (n m : Nat) (P : ProgH) (y : StateH) (zs : Sl) (ln : Nat) (z : Sl) (who : List Int) (s : State) (w : World)
   (h : AtG w [own y.h0 3 cInt 1 s.places, own y.h1 3 cInt 1 s.status] [fR (progO P), slo z cInt 1 who])
   (h1 : s.places.length = n) (h2 : s.status.length = m) (hm : n = m) (hn : P.threads.length = n) (hw : ∀ t ∈ who, 0 ≤ t ∧ t < n) (hl : who.length ≤ 100) (hp : ∀ a ∈ s.places, 0 ≤ a ∧ a ≤ 100) (hn4 : n ≤ 100) :
   Calls Tryz.prog 140 #[progV P, stV y n m zs ln, z.val who.length] w (RetG w [own y.h0 3 cInt 1 s.places, own y.h1 3 cInt 1 s.status]
     fun v L => v = stV y n m zs ln ∧ L = [own y.h0 3 cInt 1 (onM P.pure who s).places, own y.h1 3 cInt 1 (onM P.pure who s).status]) := by
 subst hm
 refine callsG_fn Tryz.func140 rfl tabOk w _ rfl _ rfl _ _ h ⟨rfl, rfl, rfl, rfl, trivial⟩ _ _ rfl rfl ?_
 refine LoopW.mk ⟨{ q : Nat × List Int × List Int // q.1 ≤ who.length ∧ q.2.1 = (onM P.pure (who.take q.1) s).places ∧ q.2.2 = (onM P.pure (who.take q.1) s).status },
   fun q => .mk [(2, .v (z.val who.length)), (3, .p 0 0), (4, .p 1 0), (6, .p 2 0), (7, .v (.int .i64 (q.1.1 : Int)))] 3 0 [(0, 26, 5), (1, 35, 9), (2, 35, 9)]
     [((0, 0), .v (P.h0.val P.sems.length)), ((0, 1), .v (P.h1.val P.groups.length)), ((0, 2), .v (P.h2.val P.barriers.length)), ((0, 3), .v (P.h3.val P.rooms.length)), ((0, 4), .v (P.h4.val P.threads.length)), ((1, 0), .v (y.h0.val q.1.2.1.length)), ((1, 1), .v (y.h1.val q.1.2.2.length)), ((1, 2), .v (y.h2.val y.sems.length)), ((1, 3), .v (y.h3.val y.onces.length)), ((1, 4), .v (y.h4.val y.groups.length)), ((1, 5), .v (y.h5.val y.barriers.length)), ((1, 6), .v (y.h6.val y.chans.length)), ((1, 7), .v (zs.val ln)), ((1, 8), .v (.int .i64 y.fault))]
     [own y.h0 3 cInt 1 q.1.2.1, own y.h1 3 cInt 1 q.1.2.2, fR (progO P), slo z cInt 1 who],
   fun q => who.length - q.1.1, ⟨(0, s.places, s.status), Nat.zero_le _, rfl, rfl⟩, ?_, ?_⟩
 · exact weak_mk [0, 1, 2, 3] zw13 zw0 zw13 zw5 zw33 rfl rfl
 rintro ⟨⟨k, pl, st⟩, hk, hpl, hst⟩
 simp only at hk hpl hst
 have l1 : pl.length = n := by rw [hpl, (onM_len _ _ _).1, h1]
 have l2 : st.length = n := by rw [hst, (onM_len _ _ _).2, h2]
 refine CaseB.mk (fun g3 => ?_) (fun g3 => ?_)
 · have hlt : k < who.length := by simpa using g3
   have hw' := e_succ k _ hlt (by omega)
   obtain ⟨t0, t1⟩ := hw _ (List.getElem_mem hlt)
   obtain ⟨τ, hτ⟩ : ∃ τ : Nat, who[k] = (τ : Int) := ⟨_, (Int.toNat_of_nonneg t0).symm⟩
   have hτn : τ < n := by omega
   have hτp : τ < pl.length := by omega
   have hτs : τ < st.length := by omega
   have hτP : τ < P.threads.length := by omega
   have hb := onM_bound P.pure (who.take k) s 100 (by omega) hp
   rw [← hpl] at hb
   have hpb := hb _ (List.getElem_mem hτp)
   have htl : ((who.take k).length : Int) ≤ 100 := by simp; omega
   have hw1 : IntKind.i64.wrap (pl[τ] + 1) = pl[τ] + 1 := by rw [IntKind.wrap_i64]; omega
   have hgo := onM_succ P.pure who s hlt
   have hset : (pl.set τ (pl[τ] + 1))[τ]'(by simpa using hτp) = pl[τ] + 1 := by simp
   have hpg : (onM P.pure (who.take k) s).places.getD τ 0 = pl[τ] := by rw [← hpl, List.getD_eq_getElem?_getD, List.getElem?_eq_getElem hτp]; rfl
   have hPg : (P.pure.threads.getD τ []).length = P.threads[τ].m.length := by simp [ProgH.pure, List.getD_eq_getElem?_getD, hτP]
   have hgo1 : (onM P.pure (who.take (k + 1)) s).places = pl.set τ (pl[τ] + 1) := by rw [hgo, hτ]; simp only [goM, Int.toNat_natCast, hpg, hpl]
   have hgo2 : (onM P.pure (who.take (k + 1)) s).status = st.set τ (restM P.pure τ (pl[τ] + 1)) := by rw [hgo, hτ]; simp only [goM, Int.toNat_natCast, hpg, hst]
   refine stop_idx encInt tabOk rfl rfl rfl rfl rfl ⟨rfl, rfl⟩ z38 k rfl z45 (fun ad => ?_)
   refine draw_own 0 rfl (show 0 < pl.length by omega) fun gg hgg _ _ => ?_
   refine draw_start tabOk z97 z97 z97 200 [((1, 0), .v (y.h0.val pl.length))] [] [] z142 z146 trivial rfl ?_
   refine d_idxP (ti := tiOf tab) tabOk rfl rfl rfl rfl rfl ⟨rfl, rfl⟩ hgg τ hτ hτp ?_
   refine d_loadW (ti := tiOf tab) encInt 0 tabOk rfl rfl rfl ⟨rfl, rfl⟩ rfl hgg τ 0 rfl hτp rfl ?_
   refine d_idxP (ti := tiOf tab) tabOk rfl rfl rfl rfl rfl ⟨rfl, rfl⟩ hgg τ hτ hτp ?_
   refine d_storeW (ti := tiOf tab) encInt 0 tabOk rfl rfl rfl rfl rfl rfl rfl rfl hgg τ 0 (pl[τ] + 1) rfl hτp rfl [.int .i64 (pl[τ] + 1)] (fun _ => by simp [SV.den, hw1]) rfl z95 ?_
   obtain ⟨pl2, hpl2⟩ : ∃ pl2, pl2 = pl.set τ (pl[τ] + 1) := ⟨_, rfl⟩
   have l3 : pl2.length = pl.length := by rw [hpl2, List.length_set]
   have hτ2 : τ < pl2.length := by omega
   have hg2 : pl2[τ] = pl[τ] + 1 := by simp [hpl2]
   rw [← hpl2] at hgo1 ⊢
   refine draw_own 1 rfl (show 0 < st.length by omega) fun gg2 hgg2 _ _ => ?_
   refine draw_start tabOk z97 z97 z97 200 [((0, 0), .v (P.h0.val P.sems.length)), ((0, 1), .v (P.h1.val P.groups.length)), ((0, 2), .v (P.h2.val P.barriers.length)), ((0, 3), .v (P.h3.val P.rooms.length)), ((0, 4), .v (P.h4.val P.threads.length)), ((1, 0), .v (y.h0.val pl.length)), ((1, 1), .v (y.h1.val st.length))] [0] [_] z108 z124 ⟨rfl, trivial⟩ rfl ?_
   refine d_idx (ti := tiOf tab) (xs := pl2) encInt tabOk rfl (by rw [l3]; rfl) rfl rfl rfl ⟨rfl, rfl⟩ (rdVia 0 rfl (Rd.own (o := false) (o' := false))) τ hτ hτ2 (fun ad3 => ?_)
   rw [hg2]
   refine d_call _ cl107 rfl rfl rfl rfl ⟨rfl, rfl⟩ (fun A w hW => l7Rest_c P _ _ τ hτP hτ w ⟨hW.get 2 rfl (.refl _), trivial⟩) ?_
   rintro v L ⟨rfl, rfl⟩
   refine d_idxP (ti := tiOf tab) tabOk rfl rfl rfl rfl rfl ⟨rfl, rfl⟩ hgg2 τ hτ hτs ?_
   refine d_storeW (ti := tiOf tab) encInt 1 tabOk rfl rfl rfl rfl rfl rfl rfl rfl hgg2 τ 0 (if pl[τ] + 1 = ((P.threads[τ]).m.length : Int) then 3 else 0) rfl hτs rfl [.int .i64 (if pl[τ] + 1 = ((P.threads[τ]).m.length : Int) then 3 else 0)] (fun _ => rfl) rfl z95 ?_
   refine ⟨⟨(k + 1, pl2, st.set τ (if pl[τ] + 1 = ((P.threads[τ]).m.length : Int) then 3 else 0)), hlt, hgo1.symm, by rw [hgo2, restM, hPg]⟩, ?_, by simp only; omega⟩
   refine weak_mk [1, 0, 2, 3] ?_ ?_ ?_ ?_ ?_ rfl rfl
   · exact zw20
   · exact zw0
   · exact zw20
   · exact zw5
   · repeat (first | exact trivial | refine ⟨.inl ⟨_, rfl, (by first | rfl | ((first | exact congrArg (fun z => SV.v (Value.int .i64 z)) hw' | (simp only [l3]; done) | (simp only [List.length_set]; done))))⟩, ?_⟩ | refine ⟨.inr z136, ?_⟩)
 · have hge : who.length ≤ k := by simpa using g3
   rw [List.take_of_length_le hge] at hpl hst
   rw [← hpl, ← hst]
   exact retG [0, 1] ⟨rfl, rfl⟩ ⟨.inl ⟨_, rfl, z47⟩, .inl ⟨_, rfl, z47⟩, trivial⟩ rfl ⟨rfl, rfl, trivial⟩ (fun _ => z47)
theorem d_callG {E : Env} {o : Oper} {Ms : List ((Nat × Nat) × SV)} {Fs : List Fct} {next : St → Prop} {T : List (Nat × SV)} {n c : Nat} {B : List (Nat × TypeId × Nat)} {M : List ((Nat × Nat) × SV)} {F : List Fct}
   (R : Value → List Fct → Prop) (ix : List Nat) {G : List Fct} {k : Call} {fo : Operand} {g : FuncId} {cap : List (Nat × Nat)} {l : List SV} {d : Nat} (hc : callable E.P g = true)
   (hop : o.op = .call k) (hk : k.callee = .value fo) (hf : evalO T fo = some (.f g cap)) (ha : evalOs T k.args.toList = some l) (hd : Dst E o d) (hG : FK F ix G) (hok : grantOk G) (hkeep : keepF Fs F → ∀ L, keepF Fs (L ++ dropAt ix 0 F))
   (hcall : ∀ A w, WD E A n B M F w → Calls E.P g ((l.map (SV.den A)) ++ cap.map (fun x => ptr A x.1 x.2)).toArray w (RetG w G R))
   (hnext : ∀ v L, R v L → next (.mk ((d, .v v) :: T) n (c + 1) B M (L ++ dropAt ix 0 F))) :
   OpW (opD E o Ms Fs next T n c B M F) := by
 refine ⟨fun hkm hkf A a w hW hT => ?_⟩
 unfold Oper.wp
 rw [call_enter hT hc hop hk hf ha, Oper.upon_enter]
 refine (hcall A w hW).mono ?_
 rintro e w' ⟨v, L, rfl, he, hL, hR⟩
 refine ⟨A, _, n, _, B, M, _, fun _ _ => rfl, Nat.le_refl _, fun _ h => h, hkm, hkeep hkf L, hW.callG hG hok he hL, fun w2 => ?_, hnext v L hR⟩
 rw [hd.1]
 exact (hT.step w2).put (v := .v v) hd.lt trivial
def Fct.fresh : Fct → Fct
 | .sl _ i sz cs n => .sl false i sz cs n
 | .own _ i _ sz cs n => .sl false i sz cs n
 | .other _ _ foot P st => .other false false foot P st
theorem fresh_rd : ∀ {f g : Fct}, Rd f g.aged → Rd f (Fct.fresh g)
 | _, .sl .., h => ⟨h.p, h.foot⟩
 | _, .own .., h => ⟨h.p, h.foot⟩
 | _, .other .., h => ⟨h.p, h.foot⟩
abbrev fN (G : List Fct) : Fct := fB false (G.map Fct.fresh)
theorem fN_fR (G : List Fct) : Rd (fN G) (fR G) := by
 have key : ∀ g : Fct, (∀ w, (Fct.fresh g).P w → g.aged.P w) ∧ ∀ b, g.aged.foot b → (Fct.fresh g).foot b := fun g => by
   cases g <;> exact z144
 refine ⟨fun w hw g hg => ?_, ?_⟩
 · obtain ⟨f, hf, rfl⟩ := List.mem_map.1 hg
   exact (key f).1 w (hw _ (List.mem_map_of_mem hf))
 · rintro b ⟨g, hg, hb⟩
   obtain ⟨f, hf, rfl⟩ := List.mem_map.1 hg
   exact ⟨_, List.mem_map_of_mem hf, (key f).2 b hb⟩
theorem Shift.pack {F G : List Fct} (hG : ∀ g ∈ G, ∃ f ∈ F, f.old = false ∧ Rd f g.aged) : Shift F [fN G] := by
 intro E A n B M w h
 refine ⟨h.key, h.inj, h.mem, h.a0, h.n0, h.ext, fun f hf => ?_, List.pairwise_singleton _ _⟩
 obtain rfl := List.mem_singleton.1 hf
 refine ⟨fun g' hg' => ?_, ?_, ?_⟩
 · obtain ⟨g, hg, rfl⟩ := List.mem_map.1 hg'
   obtain ⟨f, hf, _, hr⟩ := hG g hg
   exact (fresh_rd hr).p w (h.fct f hf).1
 · rintro b ⟨g', hg', hb⟩
   obtain ⟨g, hg, rfl⟩ := List.mem_map.1 hg'
   obtain ⟨f, hf, _, hr⟩ := hG g hg
   exact (h.fct f hf).2.1 b ((fresh_rd hr).foot b hb)
 · rintro _ b ⟨g', hg', hb⟩
   obtain ⟨g, hg, rfl⟩ := List.mem_map.1 hg'
   obtain ⟨f, hf, ho, hr⟩ := hG g hg
   exact (h.fct f hf).2.2 ho b ((fresh_rd hr).foot b hb)
theorem stateN {F : List Fct} (y : StateH) (ho : ∀ g ∈ outerO y, g ∈ F) (hin : ∀ g ∈ innerO y, ∃ f ∈ F, f.old = false ∧ Rd f g.aged) : ∀ g ∈ stateO y, ∃ f ∈ F, f.old = false ∧ Rd f g.aged := by
 intro g hg
 rcases List.mem_append.1 ((stateO_perm y).mem_iff.1 hg) with hg | hg
 · refine ⟨g, ho g hg, ?_, .aged g⟩
   simp only [outerO, List.mem_cons, List.not_mem_nil, or_false] at hg
   rcases hg with rfl | rfl | rfl | rfl | rfl | rfl | rfl | rfl <;> rfl
 · exact hin g hg
theorem inON {Zs G : List Fct} (k : Nat) (hk : Zs[k]? = some (fO G)) {g : Fct} (hg : g ∈ G) : ∃ f ∈ Zs, f.old = false ∧ Rd f g.aged := ⟨_, List.mem_of_getElem? hk, rfl, .ofO ⟨g, hg, .refl _⟩⟩
theorem inFN {Zs : List Fct} (k : Nat) {g : Fct} (hk : Zs[k]? = some g) (ho : g.old = false) : ∃ f ∈ Zs, f.old = false ∧ Rd f g.aged := ⟨g, List.mem_of_getElem? hk, ho, .aged g⟩
theorem rdSem (y : StateH) (i : Nat) (h : i < y.sems.length) : RdIn (innerO y) (slo (y.sems[i]).q cWaiter 2 (y.sems[i]).m.queue) :=
 RdIn.own (o := false) (e := 184) (List.mem_append_left _ (List.mem_flatMap.2 ⟨_, List.getElem_mem h, by simp [semO]⟩))
theorem rdOnce (y : StateH) (i : Nat) (h : i < y.onces.length) : RdIn (innerO y) (slo (y.onces[i]).q cInt 1 (y.onces[i]).m.waits) :=
 RdIn.own (o := false) (e := 3) (List.mem_append_right _ (List.mem_append_left _ (List.mem_flatMap.2 ⟨_, List.getElem_mem h, by simp [onceO]⟩)))
theorem rdGroup (y : StateH) (i : Nat) (h : i < y.groups.length) : RdIn (innerO y) (slo (y.groups[i]).q cInt 1 (y.groups[i]).m.waits) :=
 RdIn.own (o := false) (e := 3) (List.mem_append_right _ (List.mem_append_right _ (List.mem_append_left _ (List.mem_flatMap.2 ⟨_, List.getElem_mem h, by simp [groupO]⟩))))
theorem rdBarrier (y : StateH) (i : Nat) (h : i < y.barriers.length) : RdIn (innerO y) (slo (y.barriers[i]).q cInt 1 (y.barriers[i]).m.waits) :=
 RdIn.own (o := false) (e := 3) (List.mem_append_right _ (List.mem_append_right _ (List.mem_append_right _ (List.mem_append_left _ (List.mem_flatMap.2 ⟨_, List.getElem_mem h, by simp [barrierO]⟩)))))
theorem rdChan0 (y : StateH) (i : Nat) (h : i < y.chans.length) : RdIn (innerO y) (slo (y.chans[i]).q0 cInt 1 (y.chans[i]).m.items) :=
 RdIn.own (o := false) (e := 3) (List.mem_append_right _ (List.mem_append_right _ (List.mem_append_right _ (List.mem_append_right _ (List.mem_flatMap.2 ⟨_, List.getElem_mem h, by simp [chanO]⟩)))))
theorem rdChan1 (y : StateH) (i : Nat) (h : i < y.chans.length) : RdIn (innerO y) (slo (y.chans[i]).q1 cLet 2 (y.chans[i]).m.senders) :=
 RdIn.own (o := false) (e := 187) (List.mem_append_right _ (List.mem_append_right _ (List.mem_append_right _ (List.mem_append_right _ (List.mem_flatMap.2 ⟨_, List.getElem_mem h, by simp [chanO]⟩)))))
theorem rdChan2 (y : StateH) (i : Nat) (h : i < y.chans.length) : RdIn (innerO y) (slo (y.chans[i]).q2 cInt 1 (y.chans[i]).m.getters) :=
 RdIn.own (o := false) (e := 3) (List.mem_append_right _ (List.mem_append_right _ (List.mem_append_right _ (List.mem_append_right _ (List.mem_flatMap.2 ⟨_, List.getElem_mem h, by simp [chanO]⟩)))))
theorem Rdy.lens {P : ProgH} {y : StateH} {k : Nat} {ops : List Op} {a st : Int} {op : Op} (r : Rdy P.pure y.pure k ops a st op) :
   y.places.length = P.threads.length ∧ y.status.length = P.threads.length ∧ k < P.threads.length ∧ P.threads.length ≤ 4 ∧ (∀ a ∈ y.pure.places, 0 ≤ a ∧ a ≤ 20) := by
 have ft := r.ft
 have lt : P.pure.threads.length = P.threads.length := by simp [ProgH.pure]
 refine ⟨by rw [← lt]; exact ft.np, by rw [← lt]; exact ft.ns, by rw [← lt]; exact r.kn, by rw [← lt]; exact ft.prog.n4, fun x hx => ?_⟩
 obtain ⟨u, hu, rfl⟩ := List.getElem_of_mem hx
 have hu2 : u < P.pure.threads.length := by rw [← ft.np]; exact hu
 obtain ⟨c0, c1, _⟩ := ft.threads u _ _ _ (List.getElem?_eq_getElem hu2) (List.getElem?_eq_getElem hu) (List.getElem?_eq_getElem (by rw [ft.ns]; exact hu2))
 have := (ft.prog.ops _ (List.getElem_mem hu2)).1
 exact ⟨c0, by omega⟩
def DoR (s' : State) (v : Value) (L : List Fct) : Prop := ∃ y : StateH, v = stateV y ∧ y.pure = s' ∧ L = [fN (stateO y)]
end Go.Proofs.YtijmjecehppbfaaGreat
