/- FnCountTurns: texts that its proof stands on, part 10. -/
import Derived.Test.YtijmjecehppbfaaGreatQCountTurnsi
namespace Go.Proofs.YtijmjecehppbfaaGreat
set_option maxRecDepth 100000
set_option maxHeartbeats 100000000
open Go Go.Sx Go.RowKit
theorem dB0 (p : ProgH) (t c : Int) (k : Nat) (hk : k < p.threads.length) (ht : t = (k : Int)) (w : World) (h : At w [fR (aV p)]) :
   Calls Tryz.prog 107 #[dJ p, .int .i64 t, .int .i64 c] w (Ret w fun v L => v = .int .i64 (if c = ((p.threads[k]).m.length : Int) then 3 else 0) ∧ L = []) := by
 refine kD Tryz.func107 rfl aA w _ rfl _ rfl _ h ⟨rfl, rfl, trivial⟩ _ _ _ (by decide) ?_
 refine aG dR aA rfl rfl rfl rfl rfl ⟨rfl, rfl⟩ (aL 0 rfl (.trans (.R_R (aY p)) (.ofR bG))) k (ht) z48 (fun ad => ?_)
 apply CaseB.mk <;> intro g
 · have q : c = ((p.threads[k]).m.length : Int) := by simpa using g
   exact aI ⟨by rw [if_pos q], rfl⟩ (fun _ => rfl)
 · have q : ¬ c = ((p.threads[k]).m.length : Int) := by simpa using g
   exact aI ⟨by rw [if_neg q], rfl⟩ (fun _ => rfl)
theorem kJ0 (n : Int) (h0 : 1 ≤ n) (h1 : n ≤ 9) (w : World) : Calls Tryz.prog 108 #[.int .i64 n] w (Ret w fun v L => ∃ y : Sl, v = .tuple #[pM ⟨n, n, []⟩ y, .bool true] ∧ L = [own y 184 cG 2 ([] : List Waiter)]) := by
 refine bV Tryz.func108 rfl aA w _ rfl _ rfl [] trivial trivial _ (by decide) ?_
 refine CaseB.mk (fun g => by simp at g; omega) (fun g => ?_)
 refine CaseB.mk (fun g => by simp at g; omega) (fun g => ?_)
 refine AllSl.mk fun y => ?_
 exact bC [0] ⟨y, rfl, rfl⟩ z151 rfl ⟨rfl, trivial⟩ (fun _ => rfl)
theorem bF0 (n : Int) (h0 : 1 ≤ n) (h1 : n ≤ 6) (w : World) : Calls Tryz.prog 109 #[.int .i64 n] w (Ret w fun v L => ∃ y : Sl, v = .tuple #[lE ⟨n, 0, []⟩ y, .bool true] ∧ L = [own y 3 aJ 1 ([] : List Int)]) := by
 refine bV Tryz.func109 rfl aA w _ rfl _ rfl [] trivial trivial _ (by decide) ?_
 refine CaseB.mk (fun g => by simp at g; omega) (fun g => ?_)
 refine CaseB.mk (fun g => by simp at g; omega) (fun g => ?_)
 refine AllSl.mk fun y => ?_
 exact bC [0] ⟨y, rfl, rfl⟩ z151 rfl ⟨rfl, trivial⟩ (fun _ => rfl)
theorem hN0 (n : Int) (h0 : 0 ≤ n) (h1 : n ≤ 4) (w : World) : Calls Tryz.prog 110 #[.int .i64 n] w (Ret w fun v L => ∃ y z u : Sl, v = .tuple #[jP ⟨n, [], [], [], false⟩ y z u, .bool true] ∧ L = [own y 3 aJ 1 ([] : List Int), own z 187 jE 2 ([] : List Letter), own u 3 aJ 1 ([] : List Int)]) := by
 refine bV Tryz.func110 rfl aA w _ rfl _ rfl [] trivial trivial _ (by decide) ?_
 refine CaseB.mk (fun g => by simp at g; omega) (fun g => ?_)
 refine CaseB.mk (fun g => by simp at g; omega) (fun g => ?_)
 refine AllSl.mk fun y => ?_
 refine AllSl.mk fun z => ?_
 refine AllSl.mk fun u => ?_
 exact bC [2, 1, 0] ⟨y, z, u, rfl, rfl⟩ z135 rfl ⟨rfl, rfl, rfl, trivial⟩ (fun _ => rfl)
theorem tV (p : ProgH) (w : World) (h : At w [fR (aV p)]) (hs : p.sems.length ≤ 1048576 ∧ p.groups.length ≤ 1048576 ∧ p.barriers.length ≤ 1048576 ∧ p.rooms.length ≤ 1048576) :
   Calls Tryz.prog 46 #[dJ p] w (Ret w (Started p.pure)) := by
 refine bV Tryz.func46 rfl aA w _ rfl _ rfl _ h ⟨rfl, rfl, trivial⟩ _ (by decide) ?_
 refine aB _ fF0 rfl rfl rfl rfl ⟨rfl, rfl⟩ (fun A w hW => mB p w ⟨hW.get 0 rfl (.refl _), trivial⟩ hs) ?_
 rintro v L ⟨b, rfl, hb, rfl⟩
 apply CaseB.mk <;> intro g
 · have hn : ¬ ProgOk p.pure := fun e => by rw [hb.2 e] at g; cases g
   refine aP (.joinO [90] (Gs := [_]) ⟨.inr ⟨Nat.le_of_ble_eq_true rfl, eA⟩, trivial⟩ rfl (G := aK StateH.zero) (.of_eq (by simp))) ?_
   exact bC [0] ⟨StateH.zero, false, rfl, tno hn, fun e => z110, fun _ => rfl, rfl⟩ z151 rfl ⟨rfl, trivial⟩ (fun _ => rfl)
 have ok := hb.1 z103
 have n4 : p.threads.length ≤ 4 := by have := ok.n4; simpa [ProgH.pure] using this
 have m0 : p.sems.length ≤ 3 := ok.sems.1
 have m1 : p.groups.length ≤ 3 := ok.groups.1
 have m2 : p.barriers.length ≤ 3 := ok.barriers.1
 have m3 : p.rooms.length ≤ 3 := ok.rooms.1
 obtain ⟨LP, hLP⟩ : ∃ l, l = p.threads.map (fun _ => (0 : Int)) := ⟨_, rfl⟩
 obtain ⟨LS, hLS⟩ : ∃ l, l = p.threads.map (fun x => rest x.m) := ⟨_, rfl⟩
 have lP : LP.length = p.threads.length := by rw [hLP]; simp
 have lS : LS.length = p.threads.length := by rw [hLS]; simp
 refine LoopW.mk ⟨{ q : Nat × Sl × Sl // q.1 ≤ p.threads.length },
   fun q => .mk [(1, .p 0 0), (2, .p 1 0), (4, .p 2 0), (5, .v (.int .i64 (q.1.1 : Int)))] 3 0 [(0, 26, 5), (1, 35, 9), (2, 35, 9)]
     [((0, 0), .v (p.h0.val p.sems.length)), ((0, 1), .v (p.h1.val p.groups.length)), ((0, 2), .v (p.h2.val p.barriers.length)), ((0, 3), .v (p.h3.val p.rooms.length)), ((0, 4), .v (p.h4.val p.threads.length)), ((2, 0), .v (q.1.2.1.val (LP.take q.1.1).length)), ((2, 1), .v (q.1.2.2.val (LS.take q.1.1).length)), ((2, 2), .v (.slice none 0 0)), ((2, 3), .v (.slice none 0 0)), ((2, 4), .v (.slice none 0 0)), ((2, 5), .v (.slice none 0 0)), ((2, 6), .v (.slice none 0 0)), ((2, 7), .v (.slice none 0 0)), ((2, 8), .v (.int .i64 0))]
     [own q.1.2.1 3 aJ 1 (LP.take q.1.1), own q.1.2.2 3 aJ 1 (LS.take q.1.1), fR (aV p)],
   fun q => p.threads.length - q.1.1, ⟨(0, ⟨none, 0⟩, ⟨none, 0⟩), Nat.zero_le _⟩, ?_, ?_⟩
 · exact aC [99, 98, 0] zw2 zw0 zw2 zw5 zw4 rfl rfl
 rintro ⟨⟨k, a, s⟩, hk⟩
 simp only at hk
 apply CaseB.mk <;> intro g
 · have hlt : k < p.threads.length := by simpa using g
   have eP : LP.take k ++ [0] = LP.take (k + 1) := by rw [hLP]; exact aR hlt rfl rfl
   have eS : ∀ x, x = rest (p.threads[k]).m → LS.take k ++ [x] = LS.take (k + 1) := fun x hx => by rw [hLS]; exact aR hlt rfl hx
   have hw := bE k _ hlt (by omega)
   refine AllSl.mk fun u => ?_
   refine bR aD 1 aA (ys := [0]) rfl rfl rfl rfl rfl rfl rfl rfl rfl (by decide) ⟨rfl, rfl⟩ rfl z40 z48 z48 (fun a2 => ?_)
   rw [eP]
   have hr : (if (0 : Int) = ((p.threads[k]).m.length : Int) then (3 : Int) else 0) = rest (p.threads[k]).m := by
     simp only [rest]
     by_cases h0 : (p.threads[k]).m.length = 0
     · simp [h0]
     · rw [if_neg h0, if_neg (by omega)]
   refine aE aA z107 z107 z107 200 [((0, 0), .v (p.h0.val p.sems.length)), ((0, 1), .v (p.h1.val p.groups.length)), ((0, 2), .v (p.h2.val p.barriers.length)), ((0, 3), .v (p.h3.val p.rooms.length)), ((0, 4), .v (p.h4.val p.threads.length))] [3] [_] z123 z140 ⟨rfl, trivial⟩ rfl ?_
   refine BothW.mk ?_ ?_
   all_goals
     refine bL _ mU0 rfl rfl rfl rfl ⟨rfl, rfl⟩ (fun A w hW => dB0 p _ 0 k hlt rfl w ⟨hW.get 3 rfl (.refl _), trivial⟩) ?_
     rintro v L ⟨rfl, rfl⟩
     rw [hr]
   rotate_left
   · refine BothW.mk ?_ ?_
     all_goals
       refine AllSl.mk fun u2 => ?_
       refine bS (ti := aU tab) aD 3 aA (ys := [rest (p.threads[k]).m]) rfl rfl rfl rfl rfl rfl rfl rfl rfl (by decide) ⟨rfl, rfl⟩ rfl z40 z48 z48 z105 (fun s2 => ?_)
       rw [eS _ rfl]
       refine ⟨⟨(k + 1, a2, s2), by omega⟩, ?_, by simp only; omega⟩
       exact aC [2, 0, 4] zw1 zw0 zw1 zw5 zw3 rfl rfl
   refine AllSl.mk fun u2 => ?_
   refine bS (ti := aU tab) aD 3 aA (ys := [rest (p.threads[k]).m]) rfl rfl rfl rfl rfl rfl rfl rfl rfl (by decide) ⟨rfl, rfl⟩ rfl z40 z48 z48 z105 (fun s2 => ?_)
   rw [eS _ rfl]
   refine ⟨⟨(k + 1, a2, s2), by omega⟩, ?_, by simp only; omega⟩
   exact aC [2, 0, 4] zw1 zw0 zw1 zw5 zw3 rfl rfl
 have hge : p.threads.length ≤ k := by simpa using g
 have eP : LP.take k = LP := List.take_of_length_le (by omega)
 have eS : LS.take k = LS := List.take_of_length_le (by omega)
 refine LoopW.mk ⟨{ q : Nat × Sl × List SemH // q.1 ≤ p.sems.length ∧ q.2.2.map (·.m) = (p.sems.map fun n => (⟨n, n, []⟩ : Sem)).take q.1 },
   fun q => .mk [(1, .p 0 0), (2, .p 1 0), (4, .p 2 0), (6, .v (.int .i64 (q.1.1 : Int)))] 3 0 [(0, 26, 5), (1, 35, 9), (2, 35, 9)]
     [((0, 0), .v (p.h0.val p.sems.length)), ((0, 1), .v (p.h1.val p.groups.length)), ((0, 2), .v (p.h2.val p.barriers.length)), ((0, 3), .v (p.h3.val p.rooms.length)), ((0, 4), .v (p.h4.val p.threads.length)), ((2, 0), .v (a.val LP.length)), ((2, 1), .v (s.val LS.length)), ((2, 2), .v (q.1.2.1.val q.1.2.2.length)), ((2, 3), .v (.slice none 0 0)), ((2, 4), .v (.slice none 0 0)), ((2, 5), .v (.slice none 0 0)), ((2, 6), .v (.slice none 0 0)), ((2, 7), .v (.slice none 0 0)), ((2, 8), .v (.int .i64 0))]
     [own q.1.2.1 95 gF 3 q.1.2.2, fO (q.1.2.2.flatMap oG), own a 3 aJ 1 LP, own s 3 aJ 1 LS, fR (aV p)],
   fun q => p.sems.length - q.1.1, ⟨(0, ⟨none, 0⟩, []), Nat.zero_le _, by simp⟩, ?_, ?_⟩
 · refine aO (.joinO [] (Gs := []) trivial rfl (.refl _)) ?_
   exact aC [99, 0, 1, 2, 3] zw16 zw0 zw16 zw5 zw34 rfl rfl
 rintro ⟨⟨k0, c0, l0⟩, hk, hl0⟩
 simp only at hk hl0
 have ln0 : l0.length = k0 := by have := congrArg List.length hl0; simp at this; omega
 apply CaseB.mk <;> intro g
 · have hlt : k0 < p.sems.length := by simpa using g
   have hw := bE k0 _ hlt (by omega)
   have hv := ok.sems.2 _ (List.getElem_mem hlt)
   refine aG aD aA rfl rfl rfl rfl rfl ⟨rfl, rfl⟩ (aL 4 rfl (.ofR (eJ p))) k0 rfl z48 (fun ad => ?_)
   refine aB _ cl108 rfl rfl rfl rfl ⟨rfl, rfl⟩ (fun A w hW => kJ0 _ hv.1 hv.2 w) ?_
   rintro v L ⟨y, rfl, rfl⟩
   refine AllSl.mk fun r => ?_
   generalize hx : (⟨⟨p.sems[k0], p.sems[k0], []⟩, y⟩ : SemH) = x
   have hxm : x.m = ⟨p.sems[k0], p.sems[k0], []⟩ := by rw [← hx]
   refine bR dC 2 aA (ys := [x]) rfl rfl rfl rfl rfl (by rw [← hx]; rfl) rfl rfl rfl (by decide) ⟨rfl, rfl⟩ rfl (by rw [← hx]; exact bU 0 rfl) z83 z74 (fun c' => ?_)
   refine ⟨⟨(k0 + 1, c', l0 ++ [x]), by omega, by rw [List.map_append]; exact aR hlt hl0 hxm⟩, ?_, by simp only; omega⟩
   refine aO (.joinO [2, 3] (Gs := [[_], _]) z143 rfl (G := (l0 ++ [x]).flatMap oG) (by subst hx; rw [List.flatMap_append]; exact (List.Perm.of_eq (by simp [oG])).trans List.perm_append_comm)) ?_
   exact aC [1, 0, 3, 4, 5] zw1 zw0 zw1 zw5 zw3 rfl rfl
 have hge0 : p.sems.length ≤ k0 := by simpa using g
 have m0' : l0.map (·.m) = p.sems.map fun n => (⟨n, n, []⟩ : Sem) := by rw [hl0, List.take_of_length_le (by simpa using hge0)]
 refine LoopW.mk ⟨{ q : Nat × Sl // q.1 ≤ 3 },
   fun q => .mk [(1, .p 0 0), (2, .p 1 0), (4, .p 2 0), (9, .v (.int .i64 (q.1.1 : Int)))] 3 0 [(0, 26, 5), (1, 35, 9), (2, 35, 9)]
     [((0, 0), .v (p.h0.val p.sems.length)), ((0, 1), .v (p.h1.val p.groups.length)), ((0, 2), .v (p.h2.val p.barriers.length)), ((0, 3), .v (p.h3.val p.rooms.length)), ((0, 4), .v (p.h4.val p.threads.length)), ((2, 0), .v (a.val LP.length)), ((2, 1), .v (s.val LS.length)), ((2, 2), .v (c0.val l0.length)), ((2, 3), .v (q.1.2.val (List.replicate q.1.1 cT).length)), ((2, 4), .v (.slice none 0 0)), ((2, 5), .v (.slice none 0 0)), ((2, 6), .v (.slice none 0 0)), ((2, 7), .v (.slice none 0 0)), ((2, 8), .v (.int .i64 0))]
     [own q.1.2 102 eB 4 (List.replicate q.1.1 cT), own c0 95 gF 3 l0, fO (l0.flatMap oG), own a 3 aJ 1 LP, own s 3 aJ 1 LS, fR (aV p)],
   fun q => 3 - q.1.1, ⟨(0, ⟨none, 0⟩), Nat.zero_le _⟩, ?_, ?_⟩
 · exact aC [99, 0, 1, 2, 3, 4] zw2 zw0 zw2 zw5 zw4 rfl rfl
 rintro ⟨⟨k1, c1⟩, hk⟩
 simp only at hk
 apply CaseB.mk <;> intro g
 · have hlt : k1 < 3 := by have g' := of_decide_eq_true g; simp only at g'; omega
   have hw := bE k1 3 hlt (by omega)
   refine AllSl.mk fun u => ?_
   refine bR cX 1 aA (ys := [cT]) rfl rfl rfl rfl rfl rfl rfl rfl rfl (by decide) ⟨rfl, rfl⟩ rfl z40 z48 z48 (fun c' => ?_)
   rw [← List.replicate_succ']
   refine ⟨⟨(k1 + 1, c'), by omega⟩, ?_, by simp only; omega⟩
   exact aC [0, 2, 3, 4, 5, 6] zw1 zw0 zw1 zw5 zw3 rfl rfl
 have hge1 : k1 = 3 := by have g' := of_decide_eq_false g; simp only at g'; omega
 have e1 : List.replicate k1 cT = [cT, cT, cT] := by rw [hge1]; rfl
 obtain ⟨L2, hL2⟩ : ∃ l, l = p.groups.map (fun n => (⟨⟨n, []⟩, ⟨none, 0⟩⟩ : GroupH)) := ⟨_, rfl⟩
 have lenL2 : L2.length = p.groups.length := by rw [hL2]; simp
 refine LoopW.mk ⟨{ q : Nat × Sl // q.1 ≤ p.groups.length },
   fun q => .mk [(1, .p 0 0), (2, .p 1 0), (4, .p 2 0), (10, .v (.int .i64 (q.1.1 : Int)))] 3 0 [(0, 26, 5), (1, 35, 9), (2, 35, 9)]
     [((0, 0), .v (p.h0.val p.sems.length)), ((0, 1), .v (p.h1.val p.groups.length)), ((0, 2), .v (p.h2.val p.barriers.length)), ((0, 3), .v (p.h3.val p.rooms.length)), ((0, 4), .v (p.h4.val p.threads.length)), ((2, 0), .v (a.val LP.length)), ((2, 1), .v (s.val LS.length)), ((2, 2), .v (c0.val l0.length)), ((2, 3), .v (c1.val [cT, cT, cT].length)), ((2, 4), .v (q.1.2.val (L2.take q.1.1).length)), ((2, 5), .v (.slice none 0 0)), ((2, 6), .v (.slice none 0 0)), ((2, 7), .v (.slice none 0 0)), ((2, 8), .v (.int .i64 0))]
     [own q.1.2 108 dQ 2 (L2.take q.1.1), own c1 102 eB 4 [cT, cT, cT], own c0 95 gF 3 l0, fO (l0.flatMap oG), own a 3 aJ 1 LP, own s 3 aJ 1 LS, fR (aV p)],
   fun q => p.groups.length - q.1.1, ⟨(0, ⟨none, 0⟩), Nat.zero_le _⟩, ?_, ?_⟩
 · exact aC [99, 0, 1, 2, 3, 4, 5] zw18 zw0 zw18 zw5 zw36 rfl rfl
 rintro ⟨⟨k2, c2⟩, hk⟩
 simp only at hk
 apply CaseB.mk <;> intro g
 · have hlt : k2 < p.groups.length := by simpa using g
   have e : ∀ x, x = (⟨⟨p.groups[k2], []⟩, ⟨none, 0⟩⟩ : GroupH) → L2.take k2 ++ [x] = L2.take (k2 + 1) := fun x hx => by rw [hL2]; exact aR hlt rfl hx
   have hw := bE k2 _ hlt (by omega)
   refine aE aA z107 z107 z107 200 [((0, 0), .v (p.h0.val p.sems.length)), ((0, 1), .v (p.h1.val p.groups.length)), ((0, 2), .v (p.h2.val p.barriers.length)), ((0, 3), .v (p.h3.val p.rooms.length)), ((0, 4), .v (p.h4.val p.threads.length))] [6] [_] z123 z140 ⟨rfl, trivial⟩ rfl ?_
   refine bM (ti := aU tab) aD aA rfl rfl rfl rfl rfl ⟨rfl, rfl⟩ (aL 0 rfl (.ofR (iP p))) k2 rfl z48 (fun ad => ?_)
   refine BothW.mk ?_ ?_
   all_goals
     refine AllSl.mk fun u => ?_
     refine bS (ti := aU tab) cJ 1 aA (ys := [⟨⟨p.groups[k2], []⟩, ⟨none, 0⟩⟩]) rfl rfl rfl rfl rfl rfl rfl rfl rfl (by decide) ⟨rfl, rfl⟩ rfl z40 z48 z48 z105 (fun c' => ?_)
     rw [e _ rfl]
     refine ⟨⟨(k2 + 1, c'), by omega⟩, ?_, by simp only; omega⟩
     exact aC [0, 2, 3, 4, 5, 6, 7] zw1 zw0 zw1 zw5 zw3 rfl rfl
 have hge2 : p.groups.length ≤ k2 := by simpa using g
 have e2 : L2.take k2 = L2 := List.take_of_length_le (by omega)
 refine LoopW.mk ⟨{ q : Nat × Sl × List BarrierH // q.1 ≤ p.barriers.length ∧ q.2.2.map (·.m) = (p.barriers.map fun n => (⟨n, 0, []⟩ : Barrier)).take q.1 },
   fun q => .mk [(1, .p 0 0), (2, .p 1 0), (4, .p 2 0), (11, .v (.int .i64 (q.1.1 : Int)))] 3 0 [(0, 26, 5), (1, 35, 9), (2, 35, 9)]
     [((0, 0), .v (p.h0.val p.sems.length)), ((0, 1), .v (p.h1.val p.groups.length)), ((0, 2), .v (p.h2.val p.barriers.length)), ((0, 3), .v (p.h3.val p.rooms.length)), ((0, 4), .v (p.h4.val p.threads.length)), ((2, 0), .v (a.val LP.length)), ((2, 1), .v (s.val LS.length)), ((2, 2), .v (c0.val l0.length)), ((2, 3), .v (c1.val [cT, cT, cT].length)), ((2, 4), .v (c2.val L2.length)), ((2, 5), .v (q.1.2.1.val q.1.2.2.length)), ((2, 6), .v (.slice none 0 0)), ((2, 7), .v (.slice none 0 0)), ((2, 8), .v (.int .i64 0))]
     [own q.1.2.1 114 cY 3 q.1.2.2, fO (q.1.2.2.flatMap dZ), own c2 108 dQ 2 L2, own c1 102 eB 4 [cT, cT, cT], own c0 95 gF 3 l0, fO (l0.flatMap oG), own a 3 aJ 1 LP, own s 3 aJ 1 LS, fR (aV p)],
   fun q => p.barriers.length - q.1.1, ⟨(0, ⟨none, 0⟩, []), Nat.zero_le _, by simp⟩, ?_, ?_⟩
 · refine aO (.joinO [] (Gs := []) trivial rfl (.refl _)) ?_
   exact aC [99, 0, 1, 2, 3, 4, 5, 6, 7] zw19 zw0 zw19 zw5 zw37 rfl rfl
 rintro ⟨⟨k3, c3, l3⟩, hk, hl3⟩
 simp only at hk hl3
 have ln3 : l3.length = k3 := by have := congrArg List.length hl3; simp at this; omega
 apply CaseB.mk <;> intro g
 · have hlt : k3 < p.barriers.length := by simpa using g
   have hw := bE k3 _ hlt (by omega)
   have hv := ok.barriers.2 _ (List.getElem_mem hlt)
   refine aG aD aA rfl rfl rfl rfl rfl ⟨rfl, rfl⟩ (aL 8 rfl (.ofR (eF p))) k3 rfl z48 (fun ad => ?_)
   refine aB _ cl109 rfl rfl rfl rfl ⟨rfl, rfl⟩ (fun A w hW => bF0 _ hv.1 hv.2 w) ?_
   rintro v L ⟨y, rfl, rfl⟩
   refine AllSl.mk fun r => ?_
   generalize hx : (⟨⟨p.barriers[k3], 0, []⟩, y⟩ : BarrierH) = x
   have hxm : x.m = ⟨p.barriers[k3], 0, []⟩ := by rw [← hx]
   refine bR cC 2 aA (ys := [x]) rfl rfl rfl rfl rfl (by rw [← hx]; rfl) rfl rfl rfl (by decide) ⟨rfl, rfl⟩ rfl (by rw [← hx]; exact bU 0 rfl) z83 z74 (fun c' => ?_)
   refine ⟨⟨(k3 + 1, c', l3 ++ [x]), by omega, by rw [List.map_append]; exact aR hlt hl3 hxm⟩, ?_, by simp only; omega⟩
   refine aO (.joinO [2, 3] (Gs := [[_], _]) z143 rfl (G := (l3 ++ [x]).flatMap dZ) (by subst hx; rw [List.flatMap_append]; exact (List.Perm.of_eq (by simp [dZ])).trans List.perm_append_comm)) ?_
   exact aC [1, 0, 3, 4, 5, 6, 7, 8, 9] zw1 zw0 zw1 zw5 zw3 rfl rfl
 have hge3 : p.barriers.length ≤ k3 := by simpa using g
 have m3' : l3.map (·.m) = p.barriers.map fun n => (⟨n, 0, []⟩ : Barrier) := by rw [hl3, List.take_of_length_le (by simpa using hge3)]
 refine LoopW.mk ⟨{ q : Nat × Sl × List ChanH // q.1 ≤ p.rooms.length ∧ q.2.2.map (·.m) = (p.rooms.map fun n => (⟨n, [], [], [], false⟩ : Chan)).take q.1 },
   fun q => .mk [(1, .p 0 0), (2, .p 1 0), (4, .p 2 0), (14, .v (.int .i64 (q.1.1 : Int)))] 3 0 [(0, 26, 5), (1, 35, 9), (2, 35, 9)]
     [((0, 0), .v (p.h0.val p.sems.length)), ((0, 1), .v (p.h1.val p.groups.length)), ((0, 2), .v (p.h2.val p.barriers.length)), ((0, 3), .v (p.h3.val p.rooms.length)), ((0, 4), .v (p.h4.val p.threads.length)), ((2, 0), .v (a.val LP.length)), ((2, 1), .v (s.val LS.length)), ((2, 2), .v (c0.val l0.length)), ((2, 3), .v (c1.val [cT, cT, cT].length)), ((2, 4), .v (c2.val L2.length)), ((2, 5), .v (c3.val l3.length)), ((2, 6), .v (q.1.2.1.val q.1.2.2.length)), ((2, 7), .v (.slice none 0 0)), ((2, 8), .v (.int .i64 0))]
     [own q.1.2.1 119 fD 5 q.1.2.2, fO (q.1.2.2.flatMap gJ), own c3 114 cY 3 l3, fO (l3.flatMap dZ), own c2 108 dQ 2 L2, own c1 102 eB 4 [cT, cT, cT], own c0 95 gF 3 l0, fO (l0.flatMap oG), own a 3 aJ 1 LP, own s 3 aJ 1 LS, fR (aV p)],
   fun q => p.rooms.length - q.1.1, ⟨(0, ⟨none, 0⟩, []), Nat.zero_le _, by simp⟩, ?_, ?_⟩
 · refine aO (.joinO [] (Gs := []) trivial rfl (.refl _)) ?_
   exact aC [99, 0, 1, 2, 3, 4, 5, 6, 7, 8, 9] zw2 zw0 zw2 zw5 zw4 rfl rfl
 rintro ⟨⟨k4, c4, l4⟩, hk, hl4⟩
 simp only at hk hl4
 have ln4 : l4.length = k4 := by have := congrArg List.length hl4; simp at this; omega
 apply CaseB.mk <;> intro g
 · have hlt : k4 < p.rooms.length := by simpa using g
   have hw := bE k4 _ hlt (by omega)
   have hv := ok.rooms.2 _ (List.getElem_mem hlt)
   refine aG aD aA rfl rfl rfl rfl rfl ⟨rfl, rfl⟩ (aL 10 rfl (.ofR (gK p))) k4 rfl z48 (fun ad => ?_)
   refine aB _ cl110 rfl rfl rfl rfl ⟨rfl, rfl⟩ (fun A w hW => hN0 _ hv.1 hv.2 w) ?_
   rintro v L ⟨y, z, u, rfl, rfl⟩
   refine AllSl.mk fun r => ?_
   generalize hx : (⟨⟨p.rooms[k4], [], [], [], false⟩, y, z, u⟩ : ChanH) = x
   have hxm : x.m = ⟨p.rooms[k4], [], [], [], false⟩ := by rw [← hx]
   refine bR cN 4 aA (ys := [x]) rfl rfl rfl rfl rfl (by rw [← hx]; rfl) rfl rfl rfl (by decide) ⟨rfl, rfl⟩ rfl (by rw [← hx]; exact bU 0 rfl) z83 z74 (fun c' => ?_)
   refine ⟨⟨(k4 + 1, c', l4 ++ [x]), by omega, by rw [List.map_append]; exact aR hlt hl4 hxm⟩, ?_, by simp only; omega⟩
   refine aO (.joinO [2, 3, 4, 5] (Gs := [[_], [_], [_], _]) z127 rfl (G := (l4 ++ [x]).flatMap gJ) (by subst hx; rw [List.flatMap_append]; exact (List.Perm.of_eq (by simp [gJ])).trans List.perm_append_comm)) ?_
   exact aC [1, 0, 3, 4, 5, 6, 7, 8, 9, 10, 11] zw1 zw0 zw1 zw5 zw3 rfl rfl
 have hge4 : p.rooms.length ≤ k4 := by simpa using g
 have m4' : l4.map (·.m) = p.rooms.map fun n => (⟨n, [], [], [], false⟩ : Chan) := by rw [hl4, List.take_of_length_le (by simpa using hge4)]
 generalize hy : (⟨LP, LS, l0, [cT, cT, cT], L2, l3, l4, [], 0, a, s, c0, c1, c2, c3, c4, ⟨none, 0⟩⟩ : StateH) = Y
 have nil1 : ∀ g ∈ L2.flatMap iV, dP g := xH fun x hx g hg => by
   rw [hL2] at hx; obtain ⟨n, _, rfl⟩ := List.mem_map.1 hx; simp [iV] at hg; subst hg; exact ⟨rfl, rfl, rfl, rfl⟩
 have gH : ∀ g ∈ [cT, cT, cT].flatMap mS, dP g := xH fun x hx g hg => by
   simp at hx; subst hx; simp [mS, cT] at hg; subst hg; exact ⟨rfl, rfl, rfl, rfl⟩
 have nil5 : ∀ g ∈ [own ⟨none, 0⟩ 3 aJ 1 ([] : List Int)], dP g := fun g hg => by
   simp at hg; subst hg; exact ⟨rfl, rfl, rfl, rfl⟩
 refine aP (.joinO [8, 9, 6, 7, 5, 90, 4, 91, 2, 3, 0, 1, 92] (Gs := [[_], [_], [_], _, [_], _, [_], _, [_], _, [_], _, _])
   ⟨.inl ⟨_, rfl, .own⟩, .inl ⟨_, rfl, .own⟩, .inl ⟨_, rfl, .own⟩, .inl ⟨_, rfl, .o⟩, .inl ⟨_, rfl, .own⟩, .inr ⟨Nat.le_of_ble_eq_true rfl, gH⟩, .inl ⟨_, rfl, .own⟩, .inr ⟨Nat.le_of_ble_eq_true rfl, nil1⟩, .inl ⟨_, rfl, .own⟩, .inl ⟨_, rfl, .o⟩, .inl ⟨_, rfl, .own⟩, .inl ⟨_, rfl, .o⟩, .inr ⟨Nat.le_of_ble_eq_true rfl, nil5⟩, trivial⟩ rfl (G := aK Y) (.of_eq z61)) ?_
 have hYp : Y.pure = start p.pure := by
   rw [← hy]
   simp only [StateH.pure, start, ProgH.pure, hLP, hLS, hL2, m0', m3', m4']
   simp [cT]
 exact bC [0] ⟨Y, true, by rw [← hy], iZ ok, fun _ => hYp, fun e => z110, rfl⟩ z151 rfl ⟨rfl, trivial⟩ (fun _ => rfl)
theorem mD {xs : List Int} {lo hi : Int} (h : iE xs lo hi) : xs.length ≤ 1048576 := Nat.le_trans h.1 (by decide)
theorem lK {p : Prog} (ok : ProgOk p) : (start p).small20 := by
 have h1 := mD ok.sems
 have h2 := mD ok.groups
 have h3 := mD ok.barriers
 have h4 := mD ok.rooms
 have h5 := ok.n4
 refine ⟨by simp [start]; omega, by simp [start]; omega, ⟨by simp [start]; omega, ?_⟩, ⟨by simp [start], ?_⟩, ⟨by simp [start]; omega, ?_⟩, ⟨by simp [start]; omega, ?_⟩, ⟨by simp [start]; omega, ?_⟩, by simp [start]⟩
 · intro x hx; obtain ⟨n, _, rfl⟩ := List.mem_map.1 hx; simp [Sem.small20]
 · intro x hx; simp [start] at hx; subst hx; simp [Once.small20]
 · intro x hx; obtain ⟨n, _, rfl⟩ := List.mem_map.1 hx; simp [Group.small20]
 · intro x hx; obtain ⟨n, _, rfl⟩ := List.mem_map.1 hx; simp [Barrier.small20]
 · intro x hx; obtain ⟨n, _, rfl⟩ := List.mem_map.1 hx; simp [Chan.small20]
theorem bG0 : State.zero.small20 := by
 refine ⟨by simp [State.zero], by simp [State.zero], ⟨by simp [State.zero], ?_⟩, ⟨by simp [State.zero], ?_⟩, ⟨by simp [State.zero], ?_⟩, ⟨by simp [State.zero], ?_⟩, ⟨by simp [State.zero], ?_⟩, by simp [State.zero]⟩
 all_goals
   intro x hx
   simp [State.zero] at hx
theorem Started.one (p : Prog) : ∃ (S : State) (c : Bool), S.small20 ∧ ∀ (y : StateH) (b : Bool), (b = true ↔ ProgOk p) → (b = true → y.pure = start p) → (b = false → y.pure = State.zero) → y.pure = S ∧ b = c := by
 by_cases ok : ProgOk p
 · refine ⟨start p, true, lK ok, fun y b h1 h2 _ => ?_⟩
   have := h1.2 ok
   exact ⟨h2 this, this⟩
 · refine ⟨State.zero, false, bG0, fun y b h1 _ h3 => ?_⟩
   cases b with
   | true => exact (ok (h1.1 rfl)).elim
   | false => exact ⟨h3 rfl, rfl⟩
theorem sO {a : ProgH} (h : a.pure.small20) : a.sems.length ≤ 1048576 ∧ a.groups.length ≤ 1048576 ∧ a.barriers.length ≤ 1048576 ∧ a.rooms.length ≤ 1048576 := ⟨h.1, h.2.1, h.2.2.1, h.2.2.2.1⟩
theorem mI0 {E : Env} {o : Oper} {Ms : List ((Nat × Nat) × SV)} {Fs : List Fct} {next : St → Prop} {T : List (Nat × SV)} {n c : Nat} {B : List (Nat × TypeId × Nat)} {M : List ((Nat × Nat) × SV)} {F : List Fct}
   (R : Value → List Fct → Prop) {k : Call} {fo : Operand} {g : FuncId} {cap : Array Value} {l : List SV} {d : Nat} (hc : aF E.P g = true)
   (hop : o.op = .call k) (hk : k.callee = .value fo) (hf : bF T fo = some (.v (.func (.func g) #[] cap))) (ha : iT T k.args.toList = some l) (hd : Dst E o d)
   (hcall : ∀ A w, WD E A n B M F w → Calls E.P g ((l.map (SV.den A)) ++ cap.toList).toArray w (Ret w R))
   (hnext : ∀ v L, R v L → next (.mk ((d, .v v) :: T) n (c + 1) B M (L ++ F))) :
   OpW (opD E o Ms Fs next T n c B M F) := by
 refine ⟨opD0.up fun hkf A a w hW hT => ?_⟩
 have hargs : (k.args.map a.eval).toList = l.map (SV.den A) := by rw [Array.toList_map]; exact iI hT ha
 have hfv := (aH hT hf).1
 have hr : (execOp a.eval o).run E.P w = .ok (.enter g ((l.map (SV.den A)) ++ cap.toList).toArray) w := by
   have hcat : (k.args.map a.eval) ++ cap = ((l.map (SV.den A)) ++ cap.toList).toArray := by
     apply Array.ext'; rw [Array.toList_append, hargs]
   simp only [execOp, hop, resolve, hk, Sem.run_bind, hfv, SV.den, Deferred.ofValue, Sem.run_pure, Result.andThen_ok, Array.empty_append, invoke, hcat, kB hc]
 unfold Oper.wp
 rw [hr, Oper.upon_enter]
 refine (hcall A w hW).mono ?_
 rintro e w' ⟨v, L, rfl, he, hL, hR⟩
 refine ⟨_, _, _, hW.learn he hL, fun w2 => ?_, fun f hf => List.mem_append_right _ (hkf f hf), hnext v L hR⟩
 rw [hd.1]
 exact (hT.step w2).put (v := .v v) hd.lt trivial
open Classical in
noncomputable def replayM (p : Prog) : State → List Int → Option State
 | s, [] => some s
 | s, t :: r => if StepOk p s t then replayM p (doM p s t) r else none
open Classical in
theorem kK (p : Prog) : ∀ (s : State) (tr : List Int) (t : Int), replayM p s (tr ++ [t]) = match replayM p s tr with | none => none | some s' => if StepOk p s' t then some (doM p s' t) else none
 | s, [], t => by simp [replayM]
 | s, x :: r, t => by
   simp only [List.cons_append, replayM]
   by_cases h : StepOk p s x
   · simp only [if_pos h]; exact kK p _ r t
   · simp only [if_neg h]
theorem pE (p : Prog) : ∀ (s : State) (a b : List Int), replayM p s a = none → replayM p s (a ++ b) = none
 | s, [], b, h => by simp [replayM] at h
 | s, x :: r, b, h => by
   simp only [List.cons_append, replayM] at h ⊢
   split at h
   · rename_i hx; rw [if_pos hx]; exact pE p _ r b h
   · rename_i hx; rw [if_neg hx]
open Classical in
noncomputable def replayP (p : Prog) (tc : List Int) : Option State := if ProgOk p ∧ tc.length ≤ 100 then replayM p (start p) tc else none
def mJ0 (y : StateH) (z : Sl) (n : Nat) : Value := .agg #[y.h0.val y.places.length, y.h1.val y.status.length, y.h2.val y.sems.length, y.h3.val y.onces.length, y.h4.val y.groups.length, y.h5.val y.barriers.length, y.h6.val y.chans.length, y.h7.val y.said.length, .int .i64 y.fault, z.val n]
def RunR (S : Option State) (v : Value) (L : List Fct) : Prop := ∃ (y : StateH) (z : Sl) (tr : List Int) (b : Bool), v = .tuple #[mJ0 y z tr.length, .bool b] ∧ (b = true ↔ S.isSome = true) ∧ (b = true → S = some y.pure) ∧ L = [fO (aK y), own z 3 aJ 1 tr]
theorem kK0 (y : StateH) (z yr : Sl) (n m : Nat) (q : Sl) (tc : List Int) (ga : Nat) (w : World) (h : At w [slo q aJ 1 tc, wB ga 23 [q.val tc.length]]) (hn : n ≤ tc.length) (_hl : tc.length ≤ 100) :
   Calls Tryz.prog 113 #[mJ0 y z n, yr.val m, .pointer (some ⟨ga, 0, none⟩)] w (Ret w fun v L => ∃ (t : Int) (b : Bool), v = .tuple #[.int .i64 t, .bool b] ∧ (b = true ↔ n < tc.length) ∧ (∀ hlt : n < tc.length, t = tc[n]) ∧ L = []) := by
 refine kD Tryz.func113 rfl aA w _ rfl _ rfl _ h ⟨rfl, rfl, rfl, rfl, trivial⟩ _ _ _ (by decide) ?_
 refine mQ 1 aA rfl rfl rfl rfl rfl ⟨rfl, rfl⟩ ?_
 apply CaseB.mk <;> intro g
 · have e : ¬ n < tc.length := by have g' : (n : Int) = (tc.length : Int) := z103; omega
   exact aI ⟨_, _, rfl, tno e, fun hlt => (e hlt).elim, rfl⟩ (fun _ => rfl)
 have e : n < tc.length := by have g' : ¬ (n : Int) = (tc.length : Int) := z103; omega
 refine mQ 1 aA rfl rfl rfl rfl rfl ⟨rfl, rfl⟩ ?_
 refine aG aD aA rfl rfl rfl rfl rfl ⟨rfl, rfl⟩ z40 n rfl z48 (fun ad => ?_)
 exact aI ⟨_, _, rfl, iZ e, fun _ => rfl, rfl⟩ (fun _ => rfl)
theorem oQ0 (p : ProgH) (q : Sl) (tc : List Int) (ga : Nat) (w : World) (h : At w [fR (aV p), slo q aJ 1 tc, wB ga 23 [q.val tc.length]]) (hp : p.pure.small20) (hl : tc.length ≤ 100) :
   Calls Tryz.prog 44 #[dJ p, .func (.func 113) #[] #[.pointer (some ⟨ga, 0, none⟩)]] w (Ret w (RunR (replayP p.pure tc))) := by
 refine cM Tryz.func44 rfl aA w _ rfl _ rfl _ h z147 _ _ (by decide) ?_
 refine aB _ cl104 rfl rfl rfl rfl ⟨rfl, rfl⟩ (fun A w hW => cL0 p w ⟨hW.get 0 rfl (.refl _), trivial⟩ (sO hp)) ?_
 rintro v L ⟨y0, b0, rfl, i1, i2, i3, rfl⟩
 apply CaseB.mk <;> intro g
 · have e : b0 = false := by simpa using g
   have n : replayP p.pure tc = none := by
     rw [replayP, if_neg]
     rintro ⟨ok, _⟩
     rw [i1.2 ok] at e; cases e
   refine aP (.joinO [90] (Gs := [_]) ⟨.inr ⟨Nat.le_of_ble_eq_true rfl, eA⟩, trivial⟩ rfl (G := aK StateH.zero) (.of_eq (by simp))) ?_
   rw [n]
   exact bC [0, 99] ⟨StateH.zero, gH, [], false, rfl, by simp, fun e => z110, rfl⟩ z133 rfl ⟨rfl, rfl, trivial⟩ (fun _ => rfl)
 have e : b0 = true := by simpa using g
 have ok := i1.1 e
 have hst := i2 e
 have hR : replayP p.pure tc = replayM p.pure (start p.pure) tc := by rw [replayP, if_pos ⟨ok, hl⟩]
 rw [hR]
 refine LoopW.mk ⟨{ q : Nat × StateH × Sl // q.1 ≤ tc.length ∧ replayM p.pure (start p.pure) (tc.take q.1) = some q.2.1.pure ∧ q.2.1.pure.small20 },
   fun u => .mk [(1, .v (.func (.func 113) #[] #[.pointer (some ⟨ga, 0, none⟩)])), (2, .p 0 0), (4, .p 1 0), (8, .p 3 0)] 4 0 [(0, 26, 5), (1, 37, 10), (3, 37, 10)] [((0, 0), .v (p.h0.val p.sems.length)), ((0, 1), .v (p.h1.val p.groups.length)), ((0, 2), .v (p.h2.val p.barriers.length)), ((0, 3), .v (p.h3.val p.rooms.length)), ((0, 4), .v (p.h4.val p.threads.length)), ((3, 0), .v (u.1.2.1.h0.val u.1.2.1.places.length)), ((3, 1), .v (u.1.2.1.h1.val u.1.2.1.status.length)), ((3, 2), .v (u.1.2.1.h2.val u.1.2.1.sems.length)), ((3, 3), .v (u.1.2.1.h3.val u.1.2.1.onces.length)), ((3, 4), .v (u.1.2.1.h4.val u.1.2.1.groups.length)), ((3, 5), .v (u.1.2.1.h5.val u.1.2.1.barriers.length)), ((3, 6), .v (u.1.2.1.h6.val u.1.2.1.chans.length)), ((3, 7), .v (u.1.2.1.h7.val u.1.2.1.said.length)), ((3, 8), .v (.int .i64 u.1.2.1.fault)), ((3, 9), .v (u.1.2.2.val (tc.take u.1.1).length))] [fO (aK u.1.2.1), own u.1.2.2 3 aJ 1 (tc.take u.1.1), fR (aV p), slo q aJ 1 tc, wB ga 23 [q.val tc.length]],
   fun u => tc.length - u.1.1, ⟨(0, y0, gH), Nat.zero_le _, by simp [replayM, hst], by rw [hst]; exact lK ok⟩, ?_, ?_⟩
 · exact aC [0, 99, 1, 2, 3] zw2 zw0 zw2 zw5 zw4 rfl rfl
 rintro ⟨⟨k, y, z⟩, hk, hy, hys⟩
 simp only at hk hy hys ⊢
 have hb : y.status.length ≤ 1048576 := hys.2.1
 have hkl : (tc.take k).length = k := by simp; omega
 refine aE aA z107 z107 z107 200 [((3, 0), .v (y.h0.val y.places.length)), ((3, 1), .v (y.h1.val y.status.length)), ((3, 2), .v (y.h2.val y.sems.length)), ((3, 3), .v (y.h3.val y.onces.length)), ((3, 4), .v (y.h4.val y.groups.length)), ((3, 5), .v (y.h5.val y.barriers.length)), ((3, 6), .v (y.h6.val y.chans.length)), ((3, 7), .v (y.h7.val y.said.length)), ((3, 8), .v (.int .i64 y.fault)), ((3, 9), .v (z.val (tc.take k).length))] [] [] z113 z124 trivial rfl ?_
 refine bL _ cl58 rfl rfl rfl rfl ⟨rfl, rfl⟩ (fun A w hW => gC0 y w ⟨hW.get 0 rfl (.O_R fun _ h => h), trivial⟩ hb) ?_
 rintro v L ⟨yr, rfl, rfl⟩
 refine mI0 _ cl113 rfl rfl rfl rfl ⟨rfl, rfl⟩ (fun A w hW => kK0 y z yr (tc.take k).length _ q tc ga w ⟨hW.get 4 rfl (.refl _), hW.get 5 rfl (.refl _), trivial⟩ (by omega) hl) ?_
 rintro v L ⟨t, b1, rfl, hb1, ht, rfl⟩
 apply CaseB.mk <;> intro g
 · have hkt : ¬ k < tc.length := fun h => by rw [hkl] at hb1; rw [hb1.2 h] at g; cases g
   have hte : tc.take k = tc := List.take_of_length_le (by omega)
   rw [hte] at hy
   refine aE aA z107 z107 z107 200 [((3, 0), .v (y.h0.val y.places.length)), ((3, 1), .v (y.h1.val y.status.length)), ((3, 2), .v (y.h2.val y.sems.length)), ((3, 3), .v (y.h3.val y.onces.length)), ((3, 4), .v (y.h4.val y.groups.length)), ((3, 5), .v (y.h5.val y.barriers.length)), ((3, 6), .v (y.h6.val y.chans.length)), ((3, 7), .v (y.h7.val y.said.length)), ((3, 8), .v (.int .i64 y.fault)), ((3, 9), .v (z.val (tc.take k).length))] [] [] z113 z124 trivial rfl ?_
   refine bL _ pL rfl rfl rfl rfl ⟨rfl, rfl⟩ (fun A w hW => cL y w ⟨hW.get 1 rfl (.O_R fun _ h => h), trivial⟩ hys) ?_
   rintro v L ⟨y2, rfl, hy2, rfl⟩
   refine bL _ hJ rfl rfl rfl rfl ⟨rfl, rfl⟩ (fun A w hW => cA z (tc.take k) w ⟨hW.rdOwn 3 rfl, trivial⟩ (by omega)) ?_
   rintro v L ⟨z2, rfl, rfl⟩
   rw [hy]
   exact bC [1, 0] ⟨y2, z2, tc.take k, true, rfl, by simp, fun _ => by rw [hy2], rfl⟩ z144 rfl ⟨rfl, rfl, trivial⟩ (fun _ => rfl)
 have hkt : k < tc.length := by rw [hkl] at hb1; exact hb1.1 z103
 have htt : t = tc[k] := by have := ht (by rw [hkl]; exact hkt); rw [this]; simp [hkl]
 refine aB _ cl28 rfl rfl rfl rfl ⟨rfl, rfl⟩ (fun A w hW => bE0 p y t w ⟨hW.get 3 rfl (.refl _), hW.get 1 rfl (.O_R fun _ h => h), trivial⟩ hp hys) ?_
 rintro v L ⟨y3, b2, rfl, j1, j2, j3, rfl⟩
 have hsp : tc.take (k + 1) = tc.take k ++ [t] := by rw [htt]; exact List.take_succ_eq_append_getElem hkt
 apply CaseB.mk <;> intro g
 · have n : replayM p.pure (start p.pure) tc = none := by
     have e : b2 = false := by simpa using g
     have hn : ¬ StepOk p.pure y.pure t := fun h => by rw [j1.2 h] at e; cases e
     have h1 : replayM p.pure (start p.pure) (tc.take (k + 1)) = none := by
       rw [hsp, kK, hy]; simp only [if_neg hn]
     have := pE p.pure (start p.pure) (tc.take (k + 1)) (tc.drop (k + 1)) h1
     rwa [List.take_append_drop] at this
   refine aP (.joinO [90] (Gs := [_]) ⟨.inr ⟨Nat.le_of_ble_eq_true rfl, eA⟩, trivial⟩ rfl (G := aK StateH.zero) (.of_eq (by simp))) ?_
   rw [n]
   exact bC [0, 99] ⟨StateH.zero, gH, [], false, rfl, by simp, fun e => z110, rfl⟩ z133 rfl ⟨rfl, rfl, trivial⟩ (fun _ => rfl)
 have e2 : b2 = true := by simpa using g
 have hok := j1.1 e2
 have hy3 := j2 e2
 refine aE aA z107 z107 z107 200 [((4, 0), .v (y3.h0.val y3.places.length)), ((4, 1), .v (y3.h1.val y3.status.length)), ((4, 2), .v (y3.h2.val y3.sems.length)), ((4, 3), .v (y3.h3.val y3.onces.length)), ((4, 4), .v (y3.h4.val y3.groups.length)), ((4, 5), .v (y3.h5.val y3.barriers.length)), ((4, 6), .v (y3.h6.val y3.chans.length)), ((4, 7), .v (y3.h7.val y3.said.length)), ((4, 8), .v (.int .i64 y3.fault))] [] [] z115 z125 trivial rfl ?_
 refine BothW.mk ?_ ?_
 all_goals
   refine AllSl.mk fun zk => ?_
   refine bS (ti := aU tab) aD 4 aA (xs := tc.take k) (ys := [t]) rfl rfl rfl rfl rfl rfl rfl rfl rfl (by decide) ⟨rfl, rfl⟩ rfl z40 z48 z48 z105 (fun z2 => ?_)
   refine ⟨⟨(k + 1, y3, z2), hkt, by rw [hsp, kK, hy]; simp only [if_pos hok, hy3], by rw [hy3]; exact hok.2.2.2.small⟩, ?_, by simp only; omega⟩
   refine aC [2, 0, 5, 6, 7] ?_ ?_ ?_ ?_ ?_ rfl rfl
   · exact zw26
   · exact zw0
   · exact zw26
   · exact zw5
   · repeat (first | exact trivial | refine ⟨.inl ⟨_, rfl, (by first | rfl | ((first | (rw [hsp]; done) | (simp only [hsp]; done))))⟩, ?_⟩ | refine ⟨.inr z146, ?_⟩)
theorem kL0 (p : ProgH) (q : Sl) (tc : List Int) (w : World) (h : At w [fR (aV p), slo q aJ 1 tc]) (hp : p.pure.small20) :
   Calls Tryz.prog 56 #[dJ p, q.val tc.length] w (Ret w (RunR (replayP p.pure tc))) := by
 refine cM Tryz.func56 rfl aA w _ rfl _ rfl _ h ⟨rfl, rfl, rfl, rfl, trivial⟩ _ _ (by decide) ?_
 apply CaseB.mk <;> intro g
 · have n : replayP p.pure tc = none := by
     rw [replayP, if_neg]
     rintro ⟨_, h⟩
     have g' := of_decide_eq_true g
     omega
   refine aP (.joinO [90] (Gs := [_]) ⟨.inr ⟨Nat.le_of_ble_eq_true rfl, eA⟩, trivial⟩ rfl (G := aK StateH.zero) (.of_eq (by simp))) ?_
   rw [n]
   exact bC [0, 99] ⟨StateH.zero, gH, [], false, rfl, by simp, fun e => z110, rfl⟩ z133 rfl ⟨rfl, rfl, trivial⟩ (fun _ => rfl)
 have hl : tc.length ≤ 100 := by have g' := of_decide_eq_false g; omega
 refine aB _ cl44 rfl rfl rfl rfl ⟨rfl, rfl⟩ (fun A w hW => oQ0 p q tc (A 1) w ⟨hW.get 0 rfl (.refl _), hW.get 1 rfl (.refl _), hW.var rfl rfl, trivial⟩ hp hl) ?_
 rintro v L ⟨y, z, tr, b, rfl, i1, i2, rfl⟩
 exact bC [0, 1] ⟨y, z, tr, b, rfl, i1, i2, rfl⟩ z144 rfl ⟨rfl, rfl, trivial⟩ (fun _ => rfl)
end Go.Proofs.YtijmjecehppbfaaGreat
namespace Go.Proofs.YtijmjecehppbfaaGreat
set_option maxRecDepth 100000
set_option maxHeartbeats 100000000
open Go Go.Sx Go.RowKit
theorem tW (m : Sem) (q : Sl) (w : World) (h : At w [slo q cG 2 m.queue]) (hb : m.queue.length ≤ 1048576) :
   Calls Tryz.prog 142 #[pM m q] w (Ret w fun v L => ∃ y : Sl, v = pM m y ∧ L = [own y 184 cG 2 m.queue]) := by
 refine bV Tryz.func142 rfl aA w _ rfl _ rfl _ h ⟨rfl, rfl, trivial⟩ _ (by decide) ?_
 refine aE aA z107 z107 z107 200 [((0, 0), .v (.int .i64 m.free)), ((0, 1), .v (.int .i64 m.limit)), ((0, 2), .v (q.val m.queue.length))] [0] [_] z136 z148 ⟨rfl, trivial⟩ rfl ?_
 repeat' ((conv => whnf); (first
   | refine BothW.mk ?_ ?_
   | refine AllSl.mk fun y => ?_
   | (refine nH rfl rfl ?_; refine lN (ti := aU tab) cI aA (xs := ([] : List Waiter)) rfl rfl rfl rfl rfl rfl rfl rfl rfl (by decide) ⟨rfl, rfl⟩ z44 z40 z48 z48 z105 (fun y => ?_))
   | fail))
 exact bC [0] ⟨_, rfl, rfl⟩ z151 rfl ⟨rfl, trivial⟩ (fun _ => rfl)
theorem dC0 (m : Once) (q : Sl) (w : World) (h : At w [slo q aJ 1 m.waits]) (hb : m.waits.length ≤ 1048576) :
   Calls Tryz.prog 143 #[kO m q] w (Ret w fun v L => ∃ y : Sl, v = kO m y ∧ L = [own y 3 aJ 1 m.waits]) := by
 refine bV Tryz.func143 rfl aA w _ rfl _ rfl _ h ⟨rfl, rfl, trivial⟩ _ (by decide) ?_
 refine aE aA z107 z107 z107 200 [((0, 0), .v (.int .i64 m.state)), ((0, 1), .v (.int .i64 m.owner)), ((0, 2), .v (.int .i64 m.value)), ((0, 3), .v (q.val m.waits.length))] [0] [_] z129 z145 ⟨rfl, trivial⟩ rfl ?_
 repeat' ((conv => whnf); (first
   | refine BothW.mk ?_ ?_
   | refine AllSl.mk fun y => ?_
   | (refine nH rfl rfl ?_; refine lN (ti := aU tab) aD aA (xs := ([] : List Int)) rfl rfl rfl rfl rfl rfl rfl rfl rfl (by decide) ⟨rfl, rfl⟩ z44 z40 z48 z48 z105 (fun y => ?_))
   | fail))
 exact bC [0] ⟨_, rfl, rfl⟩ z151 rfl ⟨rfl, trivial⟩ (fun _ => rfl)
theorem eM0 (m : Sem) (q : Sl) (t n : Int) (w : World) (h : At w [slo q cG 2 m.queue]) (ok : SemOk m) (ht : bA t = true) (hn : t ∉ m.queue.map (·.t)) (h1 : 1 ≤ n) (h2 : n ≤ m.limit) :
   Calls Tryz.prog 133 #[pM m q, .int .i64 t, .int .i64 n] w (Ret w (AcqR (m.acquire t n))) := by
 have hb := ok.q6
 have l9 := ok.l9
 have fl := ok.fl
 refine kD Tryz.func133 rfl aA w _ rfl _ rfl _ h ⟨rfl, rfl, trivial⟩ _ _ _ (by decide) ?_
 refine aB _ iX0 rfl rfl rfl rfl ⟨rfl, rfl⟩ (fun A w hW => qE m q w ⟨z39, trivial⟩ (by omega)) ?_
 rintro v L ⟨b, rfl, hbb, rfl⟩
 obtain rfl : b = true := hbb.2 ok
 refine CaseB.mk (fun g => by simp at g) (fun _ => ?_)
 refine aB _ rT rfl rfl rfl rfl ⟨rfl, rfl⟩ (fun A w hW => fV _ w) ?_
 rintro v L ⟨rfl, rfl⟩
 refine CaseB.mk (fun g => by rw [ht] at g; simp at g) (fun _ => ?_)
 refine CaseB.mk (fun g => by have g' := of_decide_eq_true g; omega) (fun _ => ?_)
 refine CaseB.mk (fun g => by have g' := of_decide_eq_true g; omega) (fun _ => ?_)
 refine aB _ nB0 rfl rfl rfl rfl ⟨rfl, rfl⟩ (fun A w hW => cP0 q m.queue t w ⟨z39, trivial⟩ (by omega)) ?_
 rintro v L ⟨a, rfl, ha, rfl⟩
 have ha0 : ¬ 0 ≤ a := fun h => hn ((eM _ _).1 (ha ▸ h))
 refine CaseB.mk (fun g => by have g' := of_decide_eq_true g; exact (ha0 g').elim) (fun _ => ?_)
 refine aB _ fI0 rfl rfl rfl rfl ⟨rfl, rfl⟩ (fun A w hW => tW m q w ⟨z39, trivial⟩ (by omega)) ?_
 rintro v L ⟨y, rfl, rfl⟩
 have hac : ¬ (m.queue = [] ∧ n ≤ m.free) → m.acquire t n = ({ m with queue := m.queue ++ [⟨t, n⟩] }, false) := fun h => by rw [Sem.acquire, if_neg h]
 apply CaseB.mk <;> intro g
 · have hq : m.queue = [] := List.eq_nil_of_length_eq_zero (by have g' := of_decide_eq_true g; omega)
   apply CaseB.mk <;> intro g
   · have hf : n ≤ m.free := by simpa using g
     have hw := oM (a := m.free) (b := n) (by omega) (by omega)
     have e : m.acquire t n = ({ m with free := m.free - n }, true) := by rw [Sem.acquire, if_pos ⟨hq, hf⟩]
     rw [e]
     exact bC [0] ⟨y, rfl, rfl⟩ ⟨.inl ⟨_, rfl, z80⟩, trivial⟩ rfl ⟨rfl, trivial⟩ (fun _ => z80)
   · have hf : ¬ n ≤ m.free := by simpa using g
     rw [hac fun h => hf h.2]
     refine AllSl.mk fun z => ?_
     refine bZ cI aA (ys := [⟨t, n⟩]) rfl rfl rfl rfl rfl rfl rfl rfl rfl (by decide) ⟨rfl, rfl⟩ z44 z40 z48 z48 (fun y2 => ?_)
     exact bC [0] ⟨y2, rfl, rfl⟩ z151 rfl ⟨rfl, trivial⟩ (fun _ => rfl)
 · have hq : ¬ m.queue = [] := fun e => by rw [e] at g; simp at g
   rw [hac fun h => hq h.1]
   refine AllSl.mk fun z => ?_
   refine bZ cI aA (ys := [⟨t, n⟩]) rfl rfl rfl rfl rfl rfl rfl rfl rfl (by decide) ⟨rfl, rfl⟩ z44 z40 z48 z48 (fun y2 => ?_)
   exact bC [0] ⟨y2, rfl, rfl⟩ z151 rfl ⟨rfl, trivial⟩ (fun _ => rfl)
structure HandZ (f0 : Int) (Q : List Waiter) where
 f : Int
 R : List Waiter
 G : List Int
 q : Sl
 y : Sl
 h : dV f0 Q = ((dV f R).1, G ++ (dV f R).2.1, (dV f R).2.2)
 l0 : 0 ≤ f
 l1 : f ≤ f0
 c : ∀ x ∈ R, 1 ≤ x.n
 n : R.length + G.length = Q.length
theorem hO0 (m : Sem) (q : Sl) (w : World) (h : At w [slo q cG 2 m.queue]) (hb : m.queue.length ≤ 100) (hf0 : 0 ≤ m.free) (hf9 : m.free ≤ 100) (hc : ∀ x ∈ m.queue, 1 ≤ x.n) :
   Calls Tryz.prog 172 #[pM m q] w (Ret w fun v L => ∃ y z : Sl, v = .tuple #[pM ⟨(dV m.free m.queue).1, m.limit, (dV m.free m.queue).2.2⟩ y, z.val (dV m.free m.queue).2.1.length] ∧ L = [own y 184 cG 2 (dV m.free m.queue).2.2, own z 3 aJ 1 (dV m.free m.queue).2.1]) := by
 refine bV Tryz.func172 rfl aA w _ rfl _ rfl _ h ⟨rfl, rfl, trivial⟩ _ (by decide) ?_
 refine aB _ fI0 rfl rfl rfl rfl ⟨rfl, rfl⟩ (fun A w hW => tW m q w ⟨z39, trivial⟩ (by omega)) ?_
 rintro v L ⟨y1, rfl, rfl⟩
 refine AllSl.mk fun z0 => ?_
 refine LoopW.mk ⟨HandZ m.free m.queue,
   fun y => .mk [(2, .p 1 0), (4, .p 2 0), (5, .v (y.y.val y.G.length))] 3 0 [(1, 95, 3), (2, 95, 3)] [((2, 0), .v (.int .i64 y.f)), ((2, 1), .v (.int .i64 m.limit)), ((2, 2), .v (y.q.val y.R.length))] [own y.q 184 cG 2 y.R, own y.y 3 aJ 1 y.G],
   fun y => y.R.length, ⟨m.free, m.queue, [], y1, z0, by simp, hf0, by omega, hc, by simp⟩, ?_, ?_⟩
 · exact aC [1, 0] zw2 zw0 zw2 zw5 zw4 rfl rfl
 · rintro ⟨f, R, G, q, y, hh, l0, l1, hcR, hn⟩
   simp only
   have fin : (¬ ∃ h0 : 0 < R.length, R[0].n ≤ f) → dV m.free m.queue = (f, G, R) := fun hn => by
     rw [hh, cU0 (fun h0 hle => hn ⟨h0, hle⟩)]; simp
   refine aE aA z107 z107 z107 200 [((2, 0), .v (.int .i64 f)), ((2, 2), .v (q.val R.length))] [0] [_] z142 z152 ⟨rfl, trivial⟩ rfl ?_
   refine CaseB.mk (fun h1 => ?_) (fun h1 => ?_)
   · have h0 : 0 < R.length := by simpa using h1
     refine bM (ti := aU tab) cI aA rfl rfl rfl rfl rfl ⟨rfl, rfl⟩ (aL 0 rfl (Rd.own (o := false) (o' := false))) 0 rfl z48 (fun ad => ?_)
     refine CaseB.mk (fun h2 => ?_) (fun h2 => ?_)
     · have hle : R[0].n ≤ f := by simpa using h2
       have he := zI h0 hle
       have hw := oM (a := f) (b := R[0].n) (by omega) (by have := hcR R[0] (List.getElem_mem h0); omega)
       have hn1 := hcR R[0] (List.getElem_mem h0)
       refine aE aA z107 z107 z107 200 [((2, 2), .v (q.val R.length))] [0] [_] z153 z156 ⟨rfl, trivial⟩ rfl ?_
       refine bM (ti := aU tab) cI aA rfl rfl rfl rfl rfl ⟨rfl, rfl⟩ (aL 0 rfl (Rd.own (o := false) (o' := false))) 0 rfl z48 (fun ad => ?_)
       refine aG cI aA rfl rfl rfl rfl rfl ⟨rfl, rfl⟩ (aL 0 rfl (Rd.own (o := false) (o' := false))) 0 rfl z48 (fun ad2 => ?_)
       refine AllSl.mk fun z1 => ?_
       refine bZ aD aA (xs := G) (ys := [R[0].t]) rfl rfl rfl rfl rfl rfl rfl rfl rfl (by decide) ⟨rfl, rfl⟩ z44 z40 z48 z48 (fun y2 => ?_)
       refine AllSl.mk fun z2 => ?_
       refine hY aA rfl rfl rfl rfl ⟨rfl, rfl⟩ rfl rfl z40 (1) (R.length) ((R.drop 1)).length rfl rfl z48 z48 z48 ?_
       refine bZ cI aA (xs := []) rfl rfl rfl rfl rfl rfl rfl rfl rfl (by decide) ⟨rfl, rfl⟩ z44 (uR cI 1 (by omega) z40) z48 z48 (fun q2 => ?_)
       refine ⟨⟨f - R[0].n, R.drop 1, G ++ [R[0].t], q2, y2, by rw [hh, he]; simp, by omega, by omega, fun x hx => hcR x (List.mem_of_mem_drop hx), by simp; omega⟩, ?_, by simp; omega⟩
       exact aC [0, 1] zw1 zw0 zw1 zw5 zw3 rfl rfl
     · have hle : ¬ R[0].n ≤ f := by simpa using h2
       have he := fin fun ⟨_, h⟩ => hle h
       rw [he]
       exact bC [0, 1] ⟨q, y, rfl, rfl⟩ z144 rfl ⟨rfl, rfl, trivial⟩ (fun _ => rfl)
   · have h0 : ¬ 0 < R.length := by simpa using h1
     have he := fin fun ⟨h, _⟩ => h0 h
     rw [he]
     exact bC [0, 1] ⟨q, y, rfl, rfl⟩ z144 rfl ⟨rfl, rfl, trivial⟩ (fun _ => rfl)
theorem xP (m : Sem) (q : Sl) (n : Int) (w : World) (h : At w [slo q cG 2 m.queue]) (ok : SemOk m) (h1 : 1 ≤ n) (h2 : n ≤ m.limit) :
   Calls Tryz.prog 134 #[pM m q, .int .i64 n] w (Ret w (RelR (m.release n))) := by
 have hb := ok.q6
 have l9 := ok.l9
 have fl := ok.fl
 have f0 := ok.f0
 refine cM Tryz.func134 rfl aA w _ rfl _ rfl _ h ⟨rfl, rfl, trivial⟩ _ _ (by decide) ?_
 refine aB _ iX0 rfl rfl rfl rfl ⟨rfl, rfl⟩ (fun A w hW => qE m q w ⟨z39, trivial⟩ (by omega)) ?_
 rintro v L ⟨b, rfl, hbb, rfl⟩
 obtain rfl : b = true := hbb.2 ok
 refine CaseB.mk (fun g => by simp at g) (fun _ => ?_)
 refine CaseB.mk (fun g => by have g' := of_decide_eq_true g; omega) (fun _ => ?_)
 have hw := oM (a := m.limit) (b := m.free) (by omega) (by omega)
 apply CaseB.mk <;> intro g
 · rw [hw] at g
   have hn : ¬ n ≤ m.limit - m.free := by have g' := of_decide_eq_true g; omega
   rw [Sem.release, if_neg hn]
   refine AllSl.mk fun z => ?_
   exact aI ⟨gH, z, rfl, rfl⟩ (fun _ => rfl)
 rw [hw] at g
 have hn : n ≤ m.limit - m.free := by have g' := of_decide_eq_false g; omega
 rw [Sem.release, if_pos hn]
 refine aB _ fI0 rfl rfl rfl rfl ⟨rfl, rfl⟩ (fun A w hW => tW m q w ⟨z39, trivial⟩ (by omega)) ?_
 rintro v L ⟨y, rfl, rfl⟩
 have hw2 := cT0 (a := m.free) (b := n) (by omega) (by omega)
 refine aB _ cl172 rfl rfl rfl rfl ⟨rfl, rfl⟩ (fun A w hW => hO0 ⟨IntKind.i64.wrap (m.free + n), m.limit, m.queue⟩ y w ⟨z39, trivial⟩ (by simp only; omega) (by simp only [hw2]; omega) (by simp only [hw2]; omega) (fun x hx => (ok.cnt x hx).1)) ?_
 simp only [hw2]
 rintro v L ⟨q2, z, rfl, rfl⟩
 exact bC [0, 1] ⟨q2, z, rfl, rfl⟩ z144 rfl ⟨rfl, rfl, trivial⟩ (fun _ => rfl)
theorem kM0 (m : Once) (q : Sl) (t : Int) (w : World) (h : At w [slo q aJ 1 m.waits]) (ok : eG m) (ht : bA t = true) (hn : t ∉ m.waits) (ho : m.state = 1 → m.owner ≠ t) :
   Calls Tryz.prog 174 #[kO m q, .int .i64 t] w (Ret w (EntR (m.enter t))) := by
 have hb := eV ok
 refine cM Tryz.func174 rfl aA w _ rfl _ rfl _ h ⟨rfl, rfl, trivial⟩ _ _ (by decide) ?_
 refine aB _ iZ0 rfl rfl rfl rfl ⟨rfl, rfl⟩ (fun A w hW => oY m q w ⟨z39, trivial⟩ (by omega)) ?_
 rintro v L ⟨b, rfl, hbb, rfl⟩
 obtain rfl : b = true := hbb.2 ok
 refine CaseB.mk (fun g => by simp at g) (fun _ => ?_)
 refine aB _ rT rfl rfl rfl rfl ⟨rfl, rfl⟩ (fun A w hW => fV _ w) ?_
 rintro v L ⟨rfl, rfl⟩
 refine CaseB.mk (fun g => by rw [ht] at g; simp at g) (fun _ => ?_)
 refine aB _ nA0 rfl rfl rfl rfl ⟨rfl, rfl⟩ (fun A w hW => dC0 m q w ⟨z39, trivial⟩ (by omega)) ?_
 rintro v L ⟨y, rfl, rfl⟩
 apply CaseB.mk <;> intro g
 · have e0 : m.state = 0 := by simpa using g
   rw [Once.enter, if_pos e0]
   exact bC [99] ⟨gH, rfl, rfl⟩ z138 rfl ⟨rfl, trivial⟩ (fun _ => rfl)
 have e0 : ¬ m.state = 0 := by simpa using g
 rw [Once.enter, if_neg e0]
 apply CaseB.mk <;> intro g
 · have e2 : m.state = 2 := by simpa using g
   rw [if_neg (by omega)]
   exact bC [0] ⟨y, rfl, rfl⟩ z151 rfl ⟨rfl, trivial⟩ (fun _ => rfl)
 have e2 : ¬ m.state = 2 := by simpa using g
 have e1 : m.state = 1 := by
   rcases ok with h | h | h
   · exact (e0 h.1).elim
   · exact h.1
   · exact (e2 h.1).elim
 rw [if_pos e1]
 have hno := ho e1
 refine CaseB.mk (fun g => by exact (hno (by have g' : t = m.owner := z103; exact g'.symm)).elim) (fun _ => ?_)
 refine aB _ uN rfl rfl rfl rfl ⟨rfl, rfl⟩ (fun A w hW => kR q m.waits t w ⟨z39, trivial⟩ (by omega)) ?_
 rintro v L ⟨rfl, rfl⟩
 refine CaseB.mk (fun g => by have g' := of_decide_eq_true g; exact (hn ((eM _ _).1 g')).elim) (fun _ => ?_)
 refine AllSl.mk fun z => ?_
 refine bZ aD aA (ys := [t]) rfl rfl rfl rfl rfl rfl rfl rfl rfl (by decide) ⟨rfl, rfl⟩ z44 z40 z48 z48 (fun y2 => ?_)
 exact bC [0] ⟨y2, rfl, rfl⟩ z151 rfl ⟨rfl, trivial⟩ (fun _ => rfl)
theorem hP0 (m : Once) (q : Sl) (t u : Int) (w : World) (h : At w [slo q aJ 1 m.waits]) (ok : eG m) (h1 : m.state = 1) (ho : m.owner = t) (hv : aW u = true) :
   Calls Tryz.prog 173 #[kO m q, .int .i64 t, .int .i64 u] w (Ret w (FinR (m.finish t u))) := by
 have hb := eV ok
 refine kD Tryz.func173 rfl aA w _ rfl _ rfl _ h ⟨rfl, rfl, trivial⟩ _ _ _ (by decide) ?_
 refine aB _ nD0 rfl rfl rfl rfl ⟨rfl, rfl⟩ (fun A w hW => jT0 m q t w ⟨z39, trivial⟩ (by omega)) ?_
 rintro v L ⟨b, rfl, hbb, rfl⟩
 obtain rfl : b = true := hbb.2 ⟨ok, h1, ho⟩
 refine CaseB.mk (fun g => by simp at g) (fun _ => ?_)
 refine aB _ pX rfl rfl rfl rfl ⟨rfl, rfl⟩ (fun A w hW => gE _ w) ?_
 rintro v L ⟨rfl, rfl⟩
 refine CaseB.mk (fun g => by simp [hv] at g) (fun _ => ?_)
 refine AllSl.mk fun z => ?_
 refine bZ aD aA (xs := []) rfl rfl rfl rfl rfl rfl rfl rfl rfl (by decide) ⟨rfl, rfl⟩ z44 z40 z48 z48 (fun y => ?_)
 exact bC [99, 0] ⟨gH, y, rfl, rfl⟩ z132 rfl ⟨rfl, rfl, trivial⟩ (fun _ => rfl)
theorem kN0 (m : Group) (q : Sl) (n : Int) (w : World) (h : At w [slo q aJ 1 m.waits]) (ok : eY m) (h1 : -9 ≤ n) (h9 : n ≤ 9) :
   Calls Tryz.prog 137 #[lQ m q, .int .i64 n] w (Ret w (AddR (m.add n))) := by
 have hb := fM ok
 have hv : 0 ≤ m.count ∧ m.count ≤ 99 := by have := ok.1; simp [aW] at this; omega
 have hw : IntKind.i64.wrap (m.count + n) = m.count + n := by rw [IntKind.wrap_i64]; omega
 refine cM Tryz.func137 rfl aA w _ rfl _ rfl _ h ⟨rfl, rfl, trivial⟩ _ _ (by decide) ?_
 refine aB _ iY0 rfl rfl rfl rfl ⟨rfl, rfl⟩ (fun A w hW => oA m q w ⟨z39, trivial⟩ (by omega)) ?_
 rintro v L ⟨b, rfl, hbb, rfl⟩
 obtain rfl : b = true := hbb.2 ok
 refine CaseB.mk (fun g => by simp at g) (fun _ => ?_)
 refine CaseB.mk (fun g => by have g' := of_decide_eq_true g; omega) (fun _ => ?_)
 refine CaseB.mk (fun g => by have g' := of_decide_eq_true g; omega) (fun _ => ?_)
 refine aB _ pX rfl rfl rfl rfl ⟨rfl, rfl⟩ (fun A w hW => gE _ w) ?_
 rw [hw]
 rintro v L ⟨rfl, rfl⟩
 apply CaseB.mk <;> intro g
 · have hn : ¬ aW (m.count + n) = true := by simpa using g
   rw [Group.add, if_neg hn]
   refine AllSl.mk fun z => ?_
   exact aI ⟨gH, z, rfl, rfl⟩ (fun _ => rfl)
 have hn : aW (m.count + n) = true := by simpa using g
 rw [Group.add, if_pos hn]
 apply CaseB.mk <;> intro g
 · rw [hw] at g
   have h0 : m.count + n = 0 := by simpa using g
   rw [if_pos h0]
   refine AllSl.mk fun z => ?_
   refine bZ aD aA (xs := []) rfl rfl rfl rfl rfl rfl rfl rfl rfl (by decide) ⟨rfl, rfl⟩ z44 z40 z48 z48 (fun y => ?_)
   exact bC [99, 0] ⟨gH, y, rfl, rfl⟩ z132 rfl ⟨rfl, rfl, trivial⟩ (fun _ => rfl)
 rw [hw] at g
 have h0 : ¬ m.count + n = 0 := by simpa using g
 rw [if_neg h0]
 refine AllSl.mk fun z => ?_
 refine bZ aD aA (xs := []) rfl rfl rfl rfl rfl rfl rfl rfl rfl (by decide) ⟨rfl, rfl⟩ z44 z40 z48 z48 (fun y => ?_)
 refine AllSl.mk fun z2 => ?_
 exact bC [1, 0] ⟨y, z2, rfl, rfl⟩ ⟨.inl ⟨_, rfl, z77⟩, .inl ⟨_, rfl, z77⟩, trivial⟩ rfl ⟨rfl, rfl, trivial⟩ (fun _ => z77)
theorem mK0 (m : Group) (q : Sl) (t : Int) (w : World) (h : At w [slo q aJ 1 m.waits]) (ok : eY m) (ht : bA t = true) (hn : t ∉ m.waits) :
   Calls Tryz.prog 138 #[lQ m q, .int .i64 t] w (Ret w (WaiR (m.wait t))) := by
 have hb := fM ok
 refine cM Tryz.func138 rfl aA w _ rfl _ rfl _ h ⟨rfl, rfl, trivial⟩ _ _ (by decide) ?_
 refine aB _ iY0 rfl rfl rfl rfl ⟨rfl, rfl⟩ (fun A w hW => oA m q w ⟨z39, trivial⟩ (by omega)) ?_
 rintro v L ⟨b, rfl, hbb, rfl⟩
 obtain rfl : b = true := hbb.2 ok
 refine CaseB.mk (fun g => by simp at g) (fun _ => ?_)
 refine aB _ rT rfl rfl rfl rfl ⟨rfl, rfl⟩ (fun A w hW => fV _ w) ?_
 rintro v L ⟨rfl, rfl⟩
 refine CaseB.mk (fun g => by rw [ht] at g; simp at g) (fun _ => ?_)
 refine aB _ uN rfl rfl rfl rfl ⟨rfl, rfl⟩ (fun A w hW => kR q m.waits t w ⟨z39, trivial⟩ (by omega)) ?_
 rintro v L ⟨rfl, rfl⟩
 refine CaseB.mk (fun g => by have g' := of_decide_eq_true g; exact (hn ((eM _ _).1 g')).elim) (fun _ => ?_)
 refine mL Sl (fun y => .mk [(1, .v (.int .i64 t)), (2, .p 0 0), (4, .p 1 0), (7, .p 2 0)] 3 0 [(0, 108, 2), (1, 108, 2), (2, 108, 2)] [((0, 0), .v (.int .i64 m.count)), ((2, 0), .v (.int .i64 m.count)), ((2, 1), .v (y.val m.waits.length))] [own y 3 aJ 1 m.waits]) ?_ ?_
 · refine aE aA z107 z107 z107 200 [((0, 0), .v (.int .i64 m.count)), ((0, 1), .v (q.val m.waits.length))] [0] [_] z142 z152 ⟨rfl, trivial⟩ rfl ?_
   repeat' ((conv => whnf); (first
     | refine BothW.mk ?_ ?_
     | refine AllSl.mk fun y => ?_
     | (refine nH rfl rfl ?_; refine lN (ti := aU tab) aD aA (xs := ([] : List Int)) rfl rfl rfl rfl rfl rfl rfl rfl rfl (by decide) ⟨rfl, rfl⟩ z44 z40 z48 z48 z105 (fun y => ?_))
     | fail))
   all_goals
     refine ⟨y, ?_⟩
     exact aC [0] zw2 zw0 zw2 zw5 zw4 rfl rfl
 intro y
 apply CaseB.mk <;> intro g
 · have h0 : m.count = 0 := by simpa using g
   have hw0 : m.waits = [] := by
     rcases ok.2.2 with h | h
     · omega
     · exact h
   rw [Group.wait, if_pos h0]
   exact bC [0] ⟨y, rfl, rfl⟩ ⟨.inl ⟨_, rfl, z49⟩, trivial⟩ rfl ⟨rfl, trivial⟩ (fun _ => z49)
 have h0 : ¬ m.count = 0 := by simpa using g
 rw [Group.wait, if_neg h0]
 refine AllSl.mk fun z => ?_
 refine bZ aD aA (ys := [t]) rfl rfl rfl rfl rfl rfl rfl rfl rfl (by decide) ⟨rfl, rfl⟩ z44 z40 z48 z48 (fun y2 => ?_)
 exact bC [0] ⟨y2, rfl, rfl⟩ z151 rfl ⟨rfl, trivial⟩ (fun _ => rfl)
theorem zN (m : Barrier) (q : Sl) (t : Int) (w : World) (h : At w [slo q aJ 1 m.waits]) (ok : dO m) (ht : bA t = true) (hn : t ∉ m.waits) :
   Calls Tryz.prog 139 #[lE m q, .int .i64 t] w (Ret w (ArrR (m.arrive t))) := by
 have hb := fY ok
 obtain ⟨p1, p6, r0, r9, wl, dis⟩ := ok
 have hw : IntKind.i64.wrap (m.round + 1) = m.round + 1 := by rw [IntKind.wrap_i64]; omega
 refine cM Tryz.func139 rfl aA w _ rfl _ rfl _ h ⟨rfl, rfl, trivial⟩ _ _ (by decide) ?_
 refine aB _ nC0 rfl rfl rfl rfl ⟨rfl, rfl⟩ (fun A w hW => pJ m q w ⟨z39, trivial⟩ (by omega)) ?_
 rintro v L ⟨b, rfl, hbb, rfl⟩
 obtain rfl : b = true := hbb.2 ⟨p1, p6, r0, r9, wl, dis⟩
 refine CaseB.mk (fun g => by simp at g) (fun _ => ?_)
 refine aB _ rT rfl rfl rfl rfl ⟨rfl, rfl⟩ (fun A w hW => fV _ w) ?_
 rintro v L ⟨rfl, rfl⟩
 refine CaseB.mk (fun g => by rw [ht] at g; simp at g) (fun _ => ?_)
 refine aB _ uN rfl rfl rfl rfl ⟨rfl, rfl⟩ (fun A w hW => kR q m.waits t w ⟨z39, trivial⟩ (by omega)) ?_
 rintro v L ⟨rfl, rfl⟩
 refine CaseB.mk (fun g => by have g' := of_decide_eq_true g; exact (hn ((eM _ _).1 g')).elim) (fun _ => ?_)
 refine AllSl.mk fun z => ?_
 refine bZ aD aA (xs := []) rfl rfl rfl rfl rfl rfl rfl rfl rfl (by decide) ⟨rfl, rfl⟩ z44 z40 z48 z48 (fun y => ?_)
 refine AllSl.mk fun z2 => ?_
 refine bZ aD aA (xs := m.waits) (ys := [t]) rfl rfl rfl rfl rfl rfl rfl rfl rfl (by decide) ⟨rfl, rfl⟩ z44 z40 z48 z48 (fun y2 => ?_)
 have hl : (m.waits ++ [t]).length = m.waits.length + 1 := by simp
 apply CaseB.mk <;> intro g
 · have h0 : (m.waits.length : Int) + 1 < m.parties := by have g' := of_decide_eq_true g; rw [hl] at g'; omega
   rw [Barrier.arrive, if_pos h0]
   refine AllSl.mk fun z3 => ?_
   exact bC [1, 0] ⟨y2, z3, rfl, rfl⟩ z144 rfl ⟨rfl, rfl, trivial⟩ (fun _ => rfl)
 have h0 : ¬ (m.waits.length : Int) + 1 < m.parties := by have g' := of_decide_eq_false g; rw [hl] at g'; omega
 rw [Barrier.arrive, if_neg h0]
 apply CaseB.mk <;> intro g
 · have h9 : m.round = 9999 := by simpa using g
   rw [if_pos h9]
   refine AllSl.mk fun z3 => ?_
   exact aI ⟨z3, rfl, rfl⟩ (fun _ => rfl)
 have h9 : ¬ m.round = 9999 := by simpa using g
 rw [if_neg h9]
 refine AllSl.mk fun z3 => ?_
 exact bC [0, 1] ⟨z3, y2, rfl, rfl⟩ ⟨.inl ⟨_, rfl, z76⟩, .inl ⟨_, rfl, z76⟩, trivial⟩ rfl ⟨rfl, rfl, trivial⟩ (fun _ => z76)
theorem tX (y : StateH) (f : Int) (w : World) :
   Calls Tryz.prog 135 #[aM y, .int .i64 f] w (Ret w fun v L => v = aM { y with fault := f } ∧ L = []) := by
 refine cM Tryz.func135 rfl aA w _ rfl _ rfl [] trivial trivial _ _ (by decide) ?_
 exact aI ⟨rfl, rfl⟩ (fun _ => rfl)
def stV (y : StateH) (n m : Nat) (zs : Sl) (ln : Nat) : Value := .agg #[y.h0.val n, y.h1.val m, y.h2.val y.sems.length, y.h3.val y.onces.length, y.h4.val y.groups.length, y.h5.val y.barriers.length, y.h6.val y.chans.length, zs.val ln, .int .i64 y.fault]
theorem kL (n m : Nat) (P : ProgH) (y : StateH) (zs : Sl) (ln : Nat) (z : Sl) (who : List Int) (s : State) (w : World)
   (h : AtG w [own y.h0 3 aJ 1 s.places, own y.h1 3 aJ 1 s.status] [fR (aV P), slo z aJ 1 who])
   (h1 : s.places.length = n) (h2 : s.status.length = m) (hm : n = m) (hn : P.threads.length = n) (hw : ∀ t ∈ who, 0 ≤ t ∧ t < n) (hl : who.length ≤ 100) (hp : ∀ a ∈ s.places, 0 ≤ a ∧ a ≤ 100) (hn4 : n ≤ 100) :
   Calls Tryz.prog 140 #[dJ P, stV y n m zs ln, z.val who.length] w (eB0 w [own y.h0 3 aJ 1 s.places, own y.h1 3 aJ 1 s.status]
     fun v L => v = stV y n m zs ln ∧ L = [own y.h0 3 aJ 1 (onM P.pure who s).places, own y.h1 3 aJ 1 (onM P.pure who s).status]) := by
 subst hm
 refine qW Tryz.func140 rfl aA w _ rfl _ rfl _ _ h ⟨rfl, rfl, rfl, rfl, trivial⟩ _ _ rfl rfl ?_
 refine LoopW.mk ⟨{ q : Nat × List Int × List Int // q.1 ≤ who.length ∧ q.2.1 = (onM P.pure (who.take q.1) s).places ∧ q.2.2 = (onM P.pure (who.take q.1) s).status },
   fun q => .mk [(2, .v (z.val who.length)), (3, .p 0 0), (4, .p 1 0), (6, .p 2 0), (7, .v (.int .i64 (q.1.1 : Int)))] 3 0 [(0, 26, 5), (1, 35, 9), (2, 35, 9)]
     [((0, 0), .v (P.h0.val P.sems.length)), ((0, 1), .v (P.h1.val P.groups.length)), ((0, 2), .v (P.h2.val P.barriers.length)), ((0, 3), .v (P.h3.val P.rooms.length)), ((0, 4), .v (P.h4.val P.threads.length)), ((1, 0), .v (y.h0.val q.1.2.1.length)), ((1, 1), .v (y.h1.val q.1.2.2.length)), ((1, 2), .v (y.h2.val y.sems.length)), ((1, 3), .v (y.h3.val y.onces.length)), ((1, 4), .v (y.h4.val y.groups.length)), ((1, 5), .v (y.h5.val y.barriers.length)), ((1, 6), .v (y.h6.val y.chans.length)), ((1, 7), .v (zs.val ln)), ((1, 8), .v (.int .i64 y.fault))]
     [own y.h0 3 aJ 1 q.1.2.1, own y.h1 3 aJ 1 q.1.2.2, fR (aV P), slo z aJ 1 who],
   fun q => who.length - q.1.1, ⟨(0, s.places, s.status), Nat.zero_le _, rfl, rfl⟩, ?_, ?_⟩
 · exact aC [0, 1, 2, 3] zw14 zw0 zw14 zw5 zw32 rfl rfl
 rintro ⟨⟨k, pl, st⟩, hk, hpl, hst⟩
 simp only at hk hpl hst
 have l1 : pl.length = n := by rw [hpl, (aT _ _ _).1, h1]
 have l2 : st.length = n := by rw [hst, (aT _ _ _).2, h2]
 refine CaseB.mk (fun g3 => ?_) (fun g3 => ?_)
 · have hlt : k < who.length := by simpa using g3
   have hw' := bE k _ hlt (by omega)
   obtain ⟨t0, t1⟩ := hw _ (List.getElem_mem hlt)
   obtain ⟨τ, hτ⟩ : ∃ τ : Nat, who[k] = (τ : Int) := ⟨_, (Int.toNat_of_nonneg t0).symm⟩
   have hτn : τ < n := by omega
   have hτp : τ < pl.length := by omega
   have hτs : τ < st.length := by omega
   have hτP : τ < P.threads.length := by omega
   have hb := gV P.pure (who.take k) s 100 (by omega) hp
   rw [← hpl] at hb
   have hpb := hb _ (List.getElem_mem hτp)
   have htl : ((who.take k).length : Int) ≤ 100 := by simp; omega
   have hw1 : IntKind.i64.wrap (pl[τ] + 1) = pl[τ] + 1 := by rw [IntKind.wrap_i64]; omega
   have hgo := cW0 P.pure who s hlt
   have hset : (pl.set τ (pl[τ] + 1))[τ]'(by simpa using hτp) = pl[τ] + 1 := by simp
   have hpg : (onM P.pure (who.take k) s).places.getD τ 0 = pl[τ] := by rw [← hpl, List.getD_eq_getElem?_getD, List.getElem?_eq_getElem hτp]; rfl
   have hPg : (P.pure.threads.getD τ []).length = P.threads[τ].m.length := by simp [ProgH.pure, List.getD_eq_getElem?_getD, hτP]
   have hgo1 : (onM P.pure (who.take (k + 1)) s).places = pl.set τ (pl[τ] + 1) := by rw [hgo, hτ]; simp only [goM, Int.toNat_natCast, hpg, hpl]
   have hgo2 : (onM P.pure (who.take (k + 1)) s).status = st.set τ (lW P.pure τ (pl[τ] + 1)) := by rw [hgo, hτ]; simp only [goM, Int.toNat_natCast, hpg, hst]
   refine aG aD aA rfl rfl rfl rfl rfl ⟨rfl, rfl⟩ z40 k rfl z48 (fun ad => ?_)
   refine fJ 0 rfl (show 0 < pl.length by omega) fun gg hgg _ _ => ?_
   refine aE aA z107 z107 z107 200 [((1, 0), .v (y.h0.val pl.length))] [] [] z153 z156 trivial rfl ?_
   refine iA (ti := aU tab) aA rfl rfl rfl rfl rfl ⟨rfl, rfl⟩ hgg τ hτ hτp ?_
   refine aU0 (ti := aU tab) aD 0 aA rfl rfl rfl ⟨rfl, rfl⟩ rfl hgg τ 0 rfl hτp rfl ?_
   refine iA (ti := aU tab) aA rfl rfl rfl rfl rfl ⟨rfl, rfl⟩ hgg τ hτ hτp ?_
   refine fK (ti := aU tab) aD 0 aA rfl rfl rfl rfl rfl rfl rfl rfl hgg τ 0 (pl[τ] + 1) rfl hτp rfl [.int .i64 (pl[τ] + 1)] (fun _ => by simp [SV.den, hw1]) rfl z105 ?_
   obtain ⟨pl2, hpl2⟩ : ∃ pl2, pl2 = pl.set τ (pl[τ] + 1) := ⟨_, rfl⟩
   have l3 : pl2.length = pl.length := by rw [hpl2, List.length_set]
   have hτ2 : τ < pl2.length := by omega
   have hg2 : pl2[τ] = pl[τ] + 1 := by simp [hpl2]
   rw [← hpl2] at hgo1 ⊢
   refine fJ 1 rfl (show 0 < st.length by omega) fun gg2 hgg2 _ _ => ?_
   refine aE aA z107 z107 z107 200 [((0, 0), .v (P.h0.val P.sems.length)), ((0, 1), .v (P.h1.val P.groups.length)), ((0, 2), .v (P.h2.val P.barriers.length)), ((0, 3), .v (P.h3.val P.rooms.length)), ((0, 4), .v (P.h4.val P.threads.length)), ((1, 0), .v (y.h0.val pl.length)), ((1, 1), .v (y.h1.val st.length))] [0] [_] z118 z134 ⟨rfl, trivial⟩ rfl ?_
   refine bM (ti := aU tab) (xs := pl2) aD aA rfl (by rw [l3]; rfl) rfl rfl rfl ⟨rfl, rfl⟩ (aL 0 rfl (Rd.own (o := false) (o' := false))) τ hτ hτ2 (fun ad3 => ?_)
   rw [hg2]
   refine bL _ mU0 rfl rfl rfl rfl ⟨rfl, rfl⟩ (fun A w hW => dB0 P _ _ τ hτP hτ w ⟨hW.get 2 rfl (.refl _), trivial⟩) ?_
   rintro v L ⟨rfl, rfl⟩
   refine iA (ti := aU tab) aA rfl rfl rfl rfl rfl ⟨rfl, rfl⟩ hgg2 τ hτ hτs ?_
   refine fK (ti := aU tab) aD 1 aA rfl rfl rfl rfl rfl rfl rfl rfl hgg2 τ 0 (if pl[τ] + 1 = ((P.threads[τ]).m.length : Int) then 3 else 0) rfl hτs rfl [.int .i64 (if pl[τ] + 1 = ((P.threads[τ]).m.length : Int) then 3 else 0)] (fun _ => rfl) rfl z105 ?_
   refine ⟨⟨(k + 1, pl2, st.set τ (if pl[τ] + 1 = ((P.threads[τ]).m.length : Int) then 3 else 0)), hlt, hgo1.symm, by rw [hgo2, lW, hPg]⟩, ?_, by simp only; omega⟩
   refine aC [1, 0, 2, 3] ?_ ?_ ?_ ?_ ?_ rfl rfl
   · exact zw21
   · exact zw0
   · exact zw21
   · exact zw5
   · repeat (first | exact trivial | refine ⟨.inl ⟨_, rfl, (by first | rfl | ((first | exact congrArg (fun z => SV.v (Value.int .i64 z)) hw' | (simp only [l3]; done) | (simp only [List.length_set]; done))))⟩, ?_⟩ | refine ⟨.inr z146, ?_⟩)
 · have hge : who.length ≤ k := by simpa using g3
   rw [List.take_of_length_le hge] at hpl hst
   rw [← hpl, ← hst]
   exact kN [0, 1] ⟨rfl, rfl⟩ ⟨.inl ⟨_, rfl, z50⟩, .inl ⟨_, rfl, z50⟩, trivial⟩ rfl ⟨rfl, rfl, trivial⟩ (fun _ => z50)
theorem lC {E : Env} {o : Oper} {Ms : List ((Nat × Nat) × SV)} {Fs : List Fct} {next : St → Prop} {T : List (Nat × SV)} {n c : Nat} {B : List (Nat × TypeId × Nat)} {M : List ((Nat × Nat) × SV)} {F : List Fct}
   (R : Value → List Fct → Prop) (ix : List Nat) {G : List Fct} {k : Call} {fo : Operand} {g : FuncId} {cap : List (Nat × Nat)} {l : List SV} {d : Nat} (hc : aF E.P g = true)
   (hop : o.op = .call k) (hk : k.callee = .value fo) (hf : bF T fo = some (.f g cap)) (ha : iT T k.args.toList = some l) (hd : Dst E o d) (hG : FK F ix G) (hok : kX G) (hkeep : kF Fs F → ∀ L, kF Fs (L ++ iU ix 0 F))
   (hcall : ∀ A w, WD E A n B M F w → Calls E.P g ((l.map (SV.den A)) ++ cap.map (fun x => ptr A x.1 x.2)).toArray w (eB0 w G R))
   (hnext : ∀ v L, R v L → next (.mk ((d, .v v) :: T) n (c + 1) B M (L ++ iU ix 0 F))) :
   OpW (opD E o Ms Fs next T n c B M F) := by
 refine ⟨fun hkm hkf A a w hW hT => ?_⟩
 unfold Oper.wp
 rw [jF hT hc hop hk hf ha, Oper.upon_enter]
 refine (hcall A w hW).mono ?_
 rintro e w' ⟨v, L, rfl, he, hL, hR⟩
 refine ⟨A, _, n, _, B, M, _, fun _ _ => rfl, Nat.le_refl _, fun _ h => h, hkm, hkeep hkf L, hW.callG hG hok he hL, fun w2 => ?_, hnext v L hR⟩
 rw [hd.1]
 exact (hT.step w2).put (v := .v v) hd.lt trivial
def Fct.fresh : Fct → Fct
 | .sl _ i sz cs n => .sl false i sz cs n
 | .own _ i _ sz cs n => .sl false i sz cs n
 | .other _ _ foot P st => .other false false foot P st
theorem tY : ∀ {f g : Fct}, Rd f g.aged → Rd f (Fct.fresh g)
 | _, .sl .., h => ⟨h.p, h.foot⟩
 | _, .own .., h => ⟨h.p, h.foot⟩
 | _, .other .., h => ⟨h.p, h.foot⟩
abbrev fN (G : List Fct) : Fct := fB false (G.map Fct.fresh)
theorem xQ (G : List Fct) : Rd (fN G) (fR G) := by
 have key : ∀ g : Fct, (∀ w, (Fct.fresh g).P w → g.aged.P w) ∧ ∀ b, g.aged.foot b → (Fct.fresh g).foot b := fun g => by
   cases g <;> exact z154
 refine ⟨fun w hw g hg => ?_, ?_⟩
 · obtain ⟨f, hf, rfl⟩ := List.mem_map.1 hg
   exact (key f).1 w (hw _ (List.mem_map_of_mem hf))
 · rintro b ⟨g, hg, hb⟩
   obtain ⟨f, hf, rfl⟩ := List.mem_map.1 hg
   exact ⟨_, List.mem_map_of_mem hf, (key f).2 b hb⟩
theorem Shift.pack {F G : List Fct} (hG : ∀ g ∈ G, ∃ f ∈ F, f.old = false ∧ Rd f g.aged) : Shift F [fN G] := by
 intro E A n B M w h
 refine ⟨h.key, h.inj, h.mem, h.a0, h.n0, h.ext, fun f hf => ?_, List.pairwise_singleton _ _⟩
 obtain rfl := List.mem_singleton.1 hf
 refine ⟨fun g' hg' => ?_, ?_, ?_⟩
 · obtain ⟨g, hg, rfl⟩ := List.mem_map.1 hg'
   obtain ⟨f, hf, _, hr⟩ := hG g hg
   exact (tY hr).p w (h.fct f hf).1
 · rintro b ⟨g', hg', hb⟩
   obtain ⟨g, hg, rfl⟩ := List.mem_map.1 hg'
   obtain ⟨f, hf, _, hr⟩ := hG g hg
   exact (h.fct f hf).2.1 b ((tY hr).foot b hb)
 · rintro _ b ⟨g', hg', hb⟩
   obtain ⟨g, hg, rfl⟩ := List.mem_map.1 hg'
   obtain ⟨f, hf, ho, hr⟩ := hG g hg
   exact (h.fct f hf).2.2 ho b ((tY hr).foot b hb)
theorem eK {F : List Fct} (y : StateH) (ho : ∀ g ∈ qJ y, g ∈ F) (hin : ∀ g ∈ gP y, ∃ f ∈ F, f.old = false ∧ Rd f g.aged) : ∀ g ∈ aK y, ∃ f ∈ F, f.old = false ∧ Rd f g.aged := by
 intro g hg
 rcases List.mem_append.1 ((nR y).mem_iff.1 hg) with hg | hg
 · refine ⟨g, ho g hg, ?_, .aged g⟩
   simp only [qJ, List.mem_cons, List.not_mem_nil, or_false] at hg
   rcases hg with rfl | rfl | rfl | rfl | rfl | rfl | rfl | rfl <;> rfl
 · exact hin g hg
theorem kV {Zs G : List Fct} (k : Nat) (hk : Zs[k]? = some (fO G)) {g : Fct} (hg : g ∈ G) : ∃ f ∈ Zs, f.old = false ∧ Rd f g.aged := ⟨_, List.mem_of_getElem? hk, rfl, .ofO ⟨g, hg, .refl _⟩⟩
theorem mE {Zs : List Fct} (k : Nat) {g : Fct} (hk : Zs[k]? = some g) (ho : g.old = false) : ∃ f ∈ Zs, f.old = false ∧ Rd f g.aged := ⟨g, List.mem_of_getElem? hk, ho, .aged g⟩
theorem kO0 (y : StateH) (i : Nat) (h : i < y.sems.length) : RdIn (gP y) (slo (y.sems[i]).q cG 2 (y.sems[i]).m.queue) :=
 RdIn.own (o := false) (e := 184) (List.mem_append_left _ (List.mem_flatMap.2 ⟨_, List.getElem_mem h, by simp [oG]⟩))
theorem kP0 (y : StateH) (i : Nat) (h : i < y.onces.length) : RdIn (gP y) (slo (y.onces[i]).q aJ 1 (y.onces[i]).m.waits) :=
 RdIn.own (o := false) (e := 3) (List.mem_append_right _ (List.mem_append_left _ (List.mem_flatMap.2 ⟨_, List.getElem_mem h, by simp [mS]⟩)))
theorem bH0 (y : StateH) (i : Nat) (h : i < y.groups.length) : RdIn (gP y) (slo (y.groups[i]).q aJ 1 (y.groups[i]).m.waits) :=
 RdIn.own (o := false) (e := 3) (List.mem_append_right _ (List.mem_append_right _ (List.mem_append_left _ (List.mem_flatMap.2 ⟨_, List.getElem_mem h, by simp [iV]⟩))))
theorem zO (y : StateH) (i : Nat) (h : i < y.barriers.length) : RdIn (gP y) (slo (y.barriers[i]).q aJ 1 (y.barriers[i]).m.waits) :=
 RdIn.own (o := false) (e := 3) (List.mem_append_right _ (List.mem_append_right _ (List.mem_append_right _ (List.mem_append_left _ (List.mem_flatMap.2 ⟨_, List.getElem_mem h, by simp [dZ]⟩)))))
theorem bI0 (y : StateH) (i : Nat) (h : i < y.chans.length) : RdIn (gP y) (slo (y.chans[i]).q0 aJ 1 (y.chans[i]).m.items) :=
 RdIn.own (o := false) (e := 3) (List.mem_append_right _ (List.mem_append_right _ (List.mem_append_right _ (List.mem_append_right _ (List.mem_flatMap.2 ⟨_, List.getElem_mem h, by simp [gJ]⟩)))))
theorem bJ0 (y : StateH) (i : Nat) (h : i < y.chans.length) : RdIn (gP y) (slo (y.chans[i]).q1 jE 2 (y.chans[i]).m.senders) :=
 RdIn.own (o := false) (e := 187) (List.mem_append_right _ (List.mem_append_right _ (List.mem_append_right _ (List.mem_append_right _ (List.mem_flatMap.2 ⟨_, List.getElem_mem h, by simp [gJ]⟩)))))
theorem bK0 (y : StateH) (i : Nat) (h : i < y.chans.length) : RdIn (gP y) (slo (y.chans[i]).q2 aJ 1 (y.chans[i]).m.getters) :=
 RdIn.own (o := false) (e := 3) (List.mem_append_right _ (List.mem_append_right _ (List.mem_append_right _ (List.mem_append_right _ (List.mem_flatMap.2 ⟨_, List.getElem_mem h, by simp [gJ]⟩)))))
theorem Rdy.lens {P : ProgH} {y : StateH} {k : Nat} {ops : List Op} {a st : Int} {op : Op} (r : Rdy P.pure y.pure k ops a st op) :
   y.places.length = P.threads.length ∧ y.status.length = P.threads.length ∧ k < P.threads.length ∧ P.threads.length ≤ 4 ∧ (∀ a ∈ y.pure.places, 0 ≤ a ∧ a ≤ 20) := by
 have ft := r.ft
 have lt : P.pure.threads.length = P.threads.length := by simp [ProgH.pure]
 refine ⟨by rw [← lt]; exact ft.np, by rw [← lt]; exact ft.ns, by rw [← lt]; exact r.kn, by rw [← lt]; exact ft.prog.n4, fun x hx => ?_⟩
 obtain ⟨u, hu, rfl⟩ := List.getElem_of_mem hx
 have hu2 : u < P.pure.threads.length := by rw [← ft.np]; exact hu
 obtain ⟨c0, c1, _⟩ := ft.threads u _ _ _ (List.getElem?_eq_getElem hu2) (List.getElem?_eq_getElem hu) (List.getElem?_eq_getElem (by rw [ft.ns]; exact hu2))
 have := (ft.prog.ops _ (List.getElem_mem hu2)).1
 exact ⟨c0, by omega⟩
def DoR (s' : State) (v : Value) (L : List Fct) : Prop := ∃ y : StateH, v = aM y ∧ y.pure = s' ∧ L = [fN (aK y)]
end Go.Proofs.YtijmjecehppbfaaGreat
