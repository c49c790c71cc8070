/- FnMoreChoices: texts that its proof stands on, part 11. -/
import Derived.Test.YtijmjecehppbfaaGreatQMoreChoicesj
namespace Go.Proofs.YtijmjecehppbfaaGreat
set_option maxRecDepth 100000
set_option maxHeartbeats 100000000
open Go Go.Sx Go.RowKit
theorem hU0 {p : Prog} {ch : List Int → List Int → Option Int} {s : State} {tr : List Int} (h : ch tr (cG s) = none) : ∀ n, goM2 p ch n s tr = some (s, tr)
 | 0 => rfl
 | n + 1 => by rw [goM2, h]
theorem mR0 {p : Prog} {ch : List Int → List Int → Option Int} {s : State} {tr : List Int} {t : Int} (h : ch tr (cG s) = some t) (ok : StepOk p s t) (n : Nat) : goM2 p ch (n + 1) s tr = goM2 p ch n (doM p s t) (tr ++ [t]) := by
 rw [goM2, h]
 exact if_pos ok
theorem mS0 {p : Prog} {ch : List Int → List Int → Option Int} {s : State} {tr : List Int} {t : Int} (h : ch tr (cG s) = some t) (ok : ¬ StepOk p s t) (n : Nat) : goM2 p ch (n + 1) s tr = none := by
 rw [goM2, h]
 exact if_neg ok
def RunA (A : Option (State × List Int)) (v : Value) (L : List Fct) : Prop := ∃ (y : StateH) (z : Sl) (tr : List Int) (b : Bool), v = .tuple #[kR0 y z tr.length, .bool b] ∧ (b = true ↔ A.isSome = true) ∧ (b = true → A = some (y.pure, tr)) ∧ (b = false → y.pure = State.zero ∧ tr = []) ∧ L = [fO (aK y), own z 3 aJ 1 tr]
def ChA (o : Option Int) (v : Value) (L : List Fct) : Prop := ∃ (t : Int) (b : Bool), v = .tuple #[.int .i64 t, .bool b] ∧ (b = true → o = some t) ∧ (b = false → o = none) ∧ L = []
theorem hV0 (y : StateH) (z yr : Sl) (tr rs : List Int) (q : Sl) (tc : List Int) (ga : Nat) (w : World) (h : At w [slo yr aJ 1 rs, slo q aJ 1 tc, vY ga 23 [q.val tc.length]]) (hl : tr.length ≤ tc.length) (hc : ∀ c ∈ tc, 0 ≤ c) :
   Calls Tryz.prog 45 #[kR0 y z tr.length, yr.val rs.length, .pointer (some ⟨ga, 0, none⟩)] w (Ret w (ChA (chC tc tr rs))) := by
 refine gQ Tryz.func45 rfl aA w _ rfl _ rfl _ h z140 _ _ _ (by decide) ?_
 apply CaseB.mk <;> intro g
 · have e : rs = [] := List.eq_nil_of_length_eq_zero (by have g' : (rs.length : Int) = 0 := z98; omega)
   exact aH ⟨0, false, rfl, fun h => z104, fun _ => if_pos (.inl e), rfl⟩ (fun _ => rfl)
 have e : 0 < rs.length := by have g' : ¬ (rs.length : Int) = 0 := z98; omega
 refine mU 2 aA rfl rfl rfl rfl rfl ⟨rfl, rfl⟩ ?_
 apply CaseB.mk <;> intro g
 · have e2 : tr.length = tc.length := by have g' : (tr.length : Int) = tc.length := z98; omega
   exact aH ⟨0, false, rfl, fun h => z104, fun _ => if_pos (.inr e2), rfl⟩ (fun _ => rfl)
 have e2 : ¬ tr.length = tc.length := fun h => by rw [h] at g; simp at g
 have hlt : tr.length < tc.length := by omega
 have h0 := hc _ (List.getElem_mem hlt)
 refine mU 2 aA rfl rfl rfl rfl rfl ⟨rfl, rfl⟩ ?_
 refine aG aE aA rfl rfl rfl rfl rfl ⟨rfl, rfl⟩ z35 tr.length rfl z43 (fun ad => ?_)
 obtain ⟨j, hj⟩ : ∃ j : Nat, (j : Int) = tc[tr.length] % (rs.length : Int) := ⟨(tc[tr.length] % (rs.length : Int)).toNat, Int.toNat_of_nonneg (Int.emod_nonneg _ (by omega))⟩
 have hjl : j < rs.length := by have := Int.emod_lt_of_pos tc[tr.length] (show (0 : Int) < rs.length by omega); omega
 refine cM rfl rfl rfl ⟨rfl, rfl⟩ (.int .i64 (j : Int)) (fun w => dM w) (fun w => oT (by omega) (by rw [hj]; exact (Int.tmod_eq_emod_of_nonneg h0).symm) w) ?_
 refine aG aE aA rfl rfl rfl rfl rfl ⟨rfl, rfl⟩ z35 j rfl z43 (fun ad2 => ?_)
 refine aH ⟨rs[j], true, rfl, fun _ => ?_, fun h => z104, rfl⟩ (fun _ => rfl)
 have ej : (tc.getD tr.length 0 % (rs.length : Int)).toNat = j := by rw [List.getD_eq_getElem?_getD, List.getElem?_eq_getElem hlt]; show (tc[tr.length] % (rs.length : Int)).toNat = j; omega
 rw [chC, if_neg (by rintro (h | h); (rw [h] at e; cases e); exact e2 h), ej, List.getD_eq_getElem?_getD, List.getElem?_eq_getElem hjl]; rfl
theorem mT0 (p : ProgH) (q : Sl) (tc : List Int) (ga : Nat) (w : World) (h : At w [fR (aY p), slo q aJ 1 tc, vY ga 23 [q.val tc.length]]) (hp : p.pure.small20) (hl : tc.length ≤ 100) (hc : ∀ c ∈ tc, 0 ≤ c) :
   Calls Tryz.prog 44 #[dW p, .func (.func 45) #[] #[.pointer (some ⟨ga, 0, none⟩)]] w (Ret w (RunA (open Classical in if ProgOk p.pure then goM2 p.pure (chC tc) tc.length (start p.pure) [] else none))) := by
 refine cB Tryz.func44 rfl aA w _ rfl _ rfl _ h z140 _ _ (by decide) ?_
 refine aB _ cl104 rfl rfl rfl rfl ⟨rfl, rfl⟩ (fun A w hW => cH0 p w ⟨hW.get 0 rfl (.refl _), trivial⟩ (xO hp)) ?_
 rintro v L ⟨y0, b0, rfl, i1, i2, i3, rfl⟩
 apply CaseB.mk <;> intro g
 · have e : b0 = false := by simpa using g
   rw [if_neg fun ok => by rw [i1.2 ok] at e; cases e]
   refine aO (.joinO [90] (Gs := [_]) ⟨.inr ⟨Nat.le_of_ble_eq_true rfl, dU⟩, trivial⟩ rfl (G := aK StateH.zero) (.of_eq (by simp))) ?_
   exact bG [0, 99] ⟨StateH.zero, hU, [], false, rfl, by simp, fun e => z105, fun _ => ⟨rfl, rfl⟩, rfl⟩ z126 rfl ⟨rfl, rfl, trivial⟩ (fun _ => rfl)
 have e : b0 = true := by simpa using g
 have ok := i1.1 e
 have hst := i2 e
 rw [if_pos ok]
 obtain ⟨N, hN⟩ : ∃ N : Nat, N = tc.length := ⟨_, rfl⟩
 obtain ⟨ANS, hANS⟩ : ∃ ANS, ANS = goM2 p.pure (chC tc) N (start p.pure) [] := ⟨_, rfl⟩
 have hR : goM2 p.pure (chC tc) tc.length (start p.pure) [] = ANS := by rw [hANS, hN]
 rw [hR]
 refine LoopW.mk ⟨{ u : StateH × Sl × List Int // u.2.2.length ≤ N ∧ goM2 p.pure (chC tc) (N - u.2.2.length) u.1.pure u.2.2 = ANS ∧ u.1.pure.small20 },
   fun u => .mk [(1, .v (.func (.func 45) #[] #[.pointer (some ⟨ga, 0, none⟩)])), (2, .p 0 0), (4, .p 1 0), (8, .p 3 0)] 4 0 [(0, 26, 5), (1, 37, 10), (3, 37, 10)] [((0, 0), .v (p.h0.val p.sems.length)), ((0, 1), .v (p.h1.val p.groups.length)), ((0, 2), .v (p.h2.val p.barriers.length)), ((0, 3), .v (p.h3.val p.rooms.length)), ((0, 4), .v (p.h4.val p.threads.length)), ((3, 0), .v (u.1.1.h0.val u.1.1.places.length)), ((3, 1), .v (u.1.1.h1.val u.1.1.status.length)), ((3, 2), .v (u.1.1.h2.val u.1.1.sems.length)), ((3, 3), .v (u.1.1.h3.val u.1.1.onces.length)), ((3, 4), .v (u.1.1.h4.val u.1.1.groups.length)), ((3, 5), .v (u.1.1.h5.val u.1.1.barriers.length)), ((3, 6), .v (u.1.1.h6.val u.1.1.chans.length)), ((3, 7), .v (u.1.1.h7.val u.1.1.said.length)), ((3, 8), .v (.int .i64 u.1.1.fault)), ((3, 9), .v (u.1.2.1.val u.1.2.2.length))] [fO (aK u.1.1), own u.1.2.1 3 aJ 1 u.1.2.2, fR (aY p), slo q aJ 1 tc, vY ga 23 [q.val tc.length]],
   fun u => N - u.1.2.2.length, ⟨(y0, hU, []), Nat.zero_le _, by rw [hst, hANS]; rfl, by rw [hst]; exact lR ok⟩, ?_, ?_⟩
 · exact aC [0, 99, 1, 2, 3] zw2 zw0 zw2 zw5 zw4 rfl rfl
 rintro ⟨⟨y, z, tr⟩, hk, hy, hys⟩
 simp only at hk hy hys ⊢
 have hb : y.status.length ≤ 1048576 := hys.2.1
 refine aF aA z102 z102 z102 200 [((3, 0), .v (y.h0.val y.places.length)), ((3, 1), .v (y.h1.val y.status.length)), ((3, 2), .v (y.h2.val y.sems.length)), ((3, 3), .v (y.h3.val y.onces.length)), ((3, 4), .v (y.h4.val y.groups.length)), ((3, 5), .v (y.h5.val y.barriers.length)), ((3, 6), .v (y.h6.val y.chans.length)), ((3, 7), .v (y.h7.val y.said.length)), ((3, 8), .v (.int .i64 y.fault)), ((3, 9), .v (z.val tr.length))] [] [] z108 z118 trivial rfl ?_
 refine bN _ cl58 rfl rfl rfl rfl ⟨rfl, rfl⟩ (fun A w hW => gF0 y w ⟨hW.get 0 rfl (.O_R fun _ h => h), trivial⟩ hb) ?_
 rintro v L ⟨yr, rfl, rfl⟩
 refine mQ0 _ cl45 rfl rfl rfl rfl ⟨rfl, rfl⟩ (fun A w hW => hV0 y z yr tr (cG y.pure) q tc ga w ⟨hW.rdOwn 0 rfl, hW.get 4 rfl (.refl _), hW.get 5 rfl (.refl _), trivial⟩ (by omega) hc) ?_
 rintro v L ⟨t, b1, rfl, c1, c2, rfl⟩
 apply CaseB.mk <;> intro g
 · have hno := c2 z98
   rw [hU0 hno] at hy
   refine aF aA z102 z102 z102 200 [((3, 0), .v (y.h0.val y.places.length)), ((3, 1), .v (y.h1.val y.status.length)), ((3, 2), .v (y.h2.val y.sems.length)), ((3, 3), .v (y.h3.val y.onces.length)), ((3, 4), .v (y.h4.val y.groups.length)), ((3, 5), .v (y.h5.val y.barriers.length)), ((3, 6), .v (y.h6.val y.chans.length)), ((3, 7), .v (y.h7.val y.said.length)), ((3, 8), .v (.int .i64 y.fault)), ((3, 9), .v (z.val tr.length))] [] [] z108 z118 trivial rfl ?_
   refine bN _ pJ rfl rfl rfl rfl ⟨rfl, rfl⟩ (fun A w hW => cO y w ⟨hW.get 1 rfl (.O_R fun _ h => h), trivial⟩ hys) ?_
   rintro v L ⟨y2, rfl, hy2, rfl⟩
   refine bN _ iF rfl rfl rfl rfl ⟨rfl, rfl⟩ (fun A w hW => cE z tr w ⟨hW.rdOwn 3 rfl, trivial⟩ (by omega)) ?_
   rintro v L ⟨z2, rfl, rfl⟩
   rw [← hy]
   exact bG [1, 0] ⟨y2, z2, tr, true, rfl, by simp, fun _ => by rw [hy2], fun e => z105, rfl⟩ z137 rfl ⟨rfl, rfl, trivial⟩ (fun _ => rfl)
 have hyes := c1 z98
 have hlt : tr.length < N := by
   rcases Nat.lt_or_ge tr.length N with h | h
   · exact h
   · have e : tr.length = tc.length := by omega
     rw [chC, if_pos (.inr e)] at hyes
     cases hyes
 obtain ⟨m, hm⟩ : ∃ m, N - tr.length = m + 1 := ⟨N - tr.length - 1, by omega⟩
 refine aB _ cl28 rfl rfl rfl rfl ⟨rfl, rfl⟩ (fun A w hW => aX0 p y t w ⟨hW.get 3 rfl (.refl _), hW.get 1 rfl (.O_R fun _ h => h), trivial⟩ hp hys) ?_
 rintro v L ⟨y3, b2, rfl, j1, j2, j3, rfl⟩
 apply CaseB.mk <;> intro g
 · have e : b2 = false := by simpa using g
   have hn : ¬ StepOk p.pure y.pure t := fun h => by rw [j1.2 h] at e; cases e
   rw [hm, mS0 hyes hn] at hy
   refine aO (.joinO [90] (Gs := [_]) ⟨.inr ⟨Nat.le_of_ble_eq_true rfl, dU⟩, trivial⟩ rfl (G := aK StateH.zero) (.of_eq (by simp))) ?_
   rw [← hy]
   exact bG [0, 99] ⟨StateH.zero, hU, [], false, rfl, by simp, fun e => z105, fun _ => ⟨rfl, rfl⟩, rfl⟩ z126 rfl ⟨rfl, rfl, trivial⟩ (fun _ => rfl)
 have e2 : b2 = true := by simpa using g
 have hok := j1.1 e2
 have hy3 := j2 e2
 rw [hm, mR0 hyes hok] at hy
 have hl1 : (tr ++ [t]).length = tr.length + 1 := by rw [List.length_append, List.length_singleton]
 refine aF aA z102 z102 z102 200 [((4, 0), .v (y3.h0.val y3.places.length)), ((4, 1), .v (y3.h1.val y3.status.length)), ((4, 2), .v (y3.h2.val y3.sems.length)), ((4, 3), .v (y3.h3.val y3.onces.length)), ((4, 4), .v (y3.h4.val y3.groups.length)), ((4, 5), .v (y3.h5.val y3.barriers.length)), ((4, 6), .v (y3.h6.val y3.chans.length)), ((4, 7), .v (y3.h7.val y3.said.length)), ((4, 8), .v (.int .i64 y3.fault))] [] [] ⟨⟨_, rfl, rfl, z76⟩, ⟨_, rfl, rfl, z76⟩, ⟨_, rfl, rfl, z76⟩, ⟨_, rfl, rfl, z76⟩, ⟨_, rfl, rfl, z76⟩, ⟨_, rfl, rfl, z76⟩, ⟨_, rfl, rfl, z76⟩, ⟨_, rfl, rfl, z76⟩, ⟨_, rfl, rfl, z76⟩, trivial⟩ ⟨⟨_, rfl⟩, ⟨_, rfl⟩, ⟨_, rfl⟩, ⟨_, rfl⟩, ⟨_, rfl⟩, ⟨_, rfl⟩, ⟨_, rfl⟩, ⟨_, rfl⟩, ⟨_, rfl⟩, trivial⟩ trivial rfl ?_
 refine BothW.mk ?_ ?_
 all_goals
   refine AllSl.mk fun zk => ?_
   refine bR (ti := aU tab) aE 4 aA (xs := tr) (ys := [t]) rfl rfl rfl rfl rfl rfl rfl rfl rfl (by decide) ⟨rfl, rfl⟩ rfl z35 z43 z43 z100 (fun z2 => ?_)
   refine ⟨⟨(y3, z2, tr ++ [t]), by simp only [hl1]; omega, by simp only [hl1, hy3]; rw [show N - (tr.length + 1) = m by omega]; exact hy, by rw [hy3]; exact hok.2.2.2.small⟩, ?_, by simp only [hl1]; omega⟩
   exact aC [2, 0, 5, 6, 7] zw2 zw0 zw2 zw5 zw4 rfl rfl
theorem neg_c (c : Int) (w : World) : Calls Tryz.prog 43 #[.int .i64 c] w (Ret w fun v L => v = .bool (decide (c < 0)) ∧ L = []) := by
 refine bZ Tryz.func43 rfl aA w _ rfl _ rfl [] trivial trivial _ (by decide) ?_
 exact aH ⟨rfl, rfl⟩ (fun _ => rfl)
theorem kT0 (i : Sl) (xs : List Int) (w : World) (h : At w [slo i aJ 1 xs]) (hb : xs.length ≤ 1048576) :
   Calls Tryz.prog 103 #[i.val xs.length, .func (.func 43) #[] #[]] w (Ret w fun v L => ∃ k : Int, v = .int .i64 k ∧ (0 ≤ k ↔ ∃ c ∈ xs, c < 0) ∧ L = []) := by
 refine cB Tryz.func103 rfl aA w _ rfl _ rfl _ h ⟨rfl, rfl, trivial⟩ _ _ (by decide) ?_
 refine LoopW.mk ⟨{ k : Nat // k ≤ xs.length ∧ ∀ c ∈ xs.take k, 0 ≤ c },
   fun p => .mk [(0, .v (i.val xs.length)), (1, .v (.func (.func 43) #[] #[])), (7, .v (.int .i64 xs.length)), (8, .v (.int .i64 p.1))] 0 0 [] [] [slo i aJ 1 xs],
   fun p => xs.length - p.1, ⟨0, Nat.zero_le _, by simp⟩, ?_, ?_⟩
 · exact aC [0] zw2 zw0 zw2 zw5 zw4 rfl rfl
 rintro ⟨k, hk, he⟩
 refine CaseB.mk (fun h => ?_) (fun h => ?_)
 · have hlt : k < xs.length := by simpa using h
   refine aG aE aA rfl rfl rfl rfl rfl ⟨rfl, rfl⟩ z35 k rfl z43 (fun ad => ?_)
   refine iJ _ cl43 rfl rfl rfl rfl ⟨rfl, rfl⟩ (fun A w hW => (neg_c _ w)) ?_
   rintro v L ⟨rfl, rfl⟩
   refine CaseB.mk (fun h => ?_) (fun h => ?_)
   · have hc := of_decide_eq_true h
     exact aH ⟨(k : Int), rfl, ⟨fun _ => ⟨_, List.getElem_mem hlt, hc⟩, fun _ => by omega⟩, rfl⟩ (fun _ => rfl)
   · have hc := of_decide_eq_false h
     have hw := bD k _ hlt (by omega)
     refine ⟨⟨k + 1, by omega, fun c hm => ?_⟩, ?_, by simp; omega⟩
     · rw [List.take_succ_eq_append_getElem hlt] at hm
       rcases List.mem_append.1 hm with hm | hm
       · exact he c hm
       · rw [List.mem_singleton.1 hm]; omega
     · exact aC [0] zw1 zw0 zw1 zw5 zw3 rfl rfl
 · have hge : xs.length ≤ k := by simpa using h
   rw [List.take_of_length_le hge] at he
   exact aH ⟨-1, rfl, ⟨fun h => by omega, fun ⟨c, hc, h0⟩ => by have := he c hc; omega⟩, rfl⟩ (fun _ => rfl)
theorem cY0 (i : Sl) (xs : List Int) (w : World) (h : At w [slo i aJ 1 xs]) (hb : xs.length ≤ 1048576) :
   Calls Tryz.prog 42 #[i.val xs.length, .func (.func 43) #[] #[]] w (Ret w fun v L => ∃ b : Bool, v = .bool b ∧ (b = true ↔ ∃ c ∈ xs, c < 0) ∧ L = []) := by
 refine cB Tryz.func42 rfl aA w _ rfl _ rfl _ h ⟨rfl, rfl, trivial⟩ _ _ (by decide) ?_
 refine aB _ nF0 rfl rfl rfl rfl ⟨rfl, rfl⟩ (fun A w hW => (kT0 i xs w ⟨hW.rd 0 rfl, trivial⟩ hb)) ?_
 rintro v L ⟨k, rfl, hk, rfl⟩
 refine aH ⟨decide (k ≥ 0), rfl, ?_, rfl⟩ (fun _ => rfl)
 rw [decide_eq_true_iff]
 exact hk
theorem kU0 {p : Prog} {cs : List Int} (h : ∃ c ∈ cs, c < 0) : runP p cs = none := by
 rw [runP]
 split
 · exact xP h
 · rfl
theorem mU0 (p : Prog) {cs : List Int} (hl : cs.length ≤ 100) (hc : ∀ c ∈ cs, 0 ≤ c) : runP p cs = (open Classical in if ProgOk p then goM2 p (chC cs) cs.length (start p) [] else none) := by
 rw [runP]
 by_cases ok : ProgOk p
 · rw [if_pos ⟨ok, hl⟩, if_pos ok, zM hc cs.length (start p) [] (Nat.zero_le _) (by simp)]; rfl
 · rw [if_neg fun h => ok h.1, if_neg ok]
theorem tP (p : ProgH) (q : Sl) (tc : List Int) (w : World) (h : At w [fR (aY p), slo q aJ 1 tc]) (hp : p.pure.small20) :
   Calls Tryz.prog 10 #[dW p, q.val tc.length] w (Ret w (RunA (runP p.pure tc))) := by
 refine cB Tryz.func10 rfl aA w _ rfl _ rfl _ h ⟨rfl, rfl, rfl, rfl, trivial⟩ _ _ (by decide) ?_
 apply CaseB.mk <;> intro g
 · have n : runP p.pure tc = none := by
     rw [runP, if_neg]
     rintro ⟨_, h⟩
     have g' := of_decide_eq_true g
     omega
   refine aO (.joinO [90] (Gs := [_]) ⟨.inr ⟨Nat.le_of_ble_eq_true rfl, dU⟩, trivial⟩ rfl (G := aK StateH.zero) (.of_eq (by simp))) ?_
   rw [n]
   exact bG [0, 99] ⟨StateH.zero, hU, [], false, rfl, by simp, fun e => z105, fun _ => ⟨rfl, rfl⟩, rfl⟩ z126 rfl ⟨rfl, rfl, trivial⟩ (fun _ => rfl)
 have hl : tc.length ≤ 100 := by have g' := of_decide_eq_false g; omega
 refine aB _ cl42 rfl rfl rfl rfl ⟨rfl, rfl⟩ (fun A w hW => (cY0 q tc w ⟨hW.rd 1 rfl, trivial⟩ (by omega))) ?_
 rintro v L ⟨b, rfl, hb, rfl⟩
 apply CaseB.mk <;> intro g
 · have n : runP p.pure tc = none := kU0 (hb.1 z98)
   refine aO (.joinO [90] (Gs := [_]) ⟨.inr ⟨Nat.le_of_ble_eq_true rfl, dU⟩, trivial⟩ rfl (G := aK StateH.zero) (.of_eq (by simp))) ?_
   rw [n]
   exact bG [0, 99] ⟨StateH.zero, hU, [], false, rfl, by simp, fun e => z105, fun _ => ⟨rfl, rfl⟩, rfl⟩ z126 rfl ⟨rfl, rfl, trivial⟩ (fun _ => rfl)
 have hc : ∀ c ∈ tc, 0 ≤ c := fun c hm => Classical.byContradiction fun hn => by rw [hb.2 ⟨c, hm, by omega⟩] at g; cases g
 rw [mU0 p.pure hl hc]
 refine aB _ cl44 rfl rfl rfl rfl ⟨rfl, rfl⟩ (fun A w hW => mT0 p q tc (A 1) w ⟨hW.get 0 rfl (.refl _), hW.get 1 rfl (.refl _), hW.var rfl rfl, trivial⟩ hp hl hc) ?_
 rintro v L ⟨y, z, tr, b2, rfl, i1, i2, i3, rfl⟩
 exact bG [0, 1] ⟨y, z, tr, b2, rfl, i1, i2, i3, rfl⟩ z137 rfl ⟨rfl, rfl, trivial⟩ (fun _ => rfl)
theorem tQ (m : Sem) (q : Sl) (w : World) (h : At w [slo q bV 2 m.queue]) (hb : m.queue.length ≤ 1048576) :
   Calls Tryz.prog 142 #[oC m q] w (Ret w fun v L => ∃ y : Sl, v = oC m y ∧ L = [own y 184 bV 2 m.queue]) := by
 refine bZ Tryz.func142 rfl aA w _ rfl _ rfl _ h ⟨rfl, rfl, trivial⟩ _ (by decide) ?_
 refine aF aA z102 z102 z102 200 [((0, 0), .v (.int .i64 m.free)), ((0, 1), .v (.int .i64 m.limit)), ((0, 2), .v (q.val m.queue.length))] [0] [_] z129 z141 ⟨rfl, trivial⟩ rfl ?_
 repeat' ((conv => whnf); (first
   | refine BothW.mk ?_ ?_
   | refine AllSl.mk fun y => ?_
   | (refine oS rfl rfl ?_; refine mQ (ti := aU tab) cH aA (xs := ([] : List Waiter)) rfl rfl rfl rfl rfl rfl rfl rfl rfl (by decide) ⟨rfl, rfl⟩ z39 z35 z43 z43 z100 (fun y => ?_))
   | fail))
 exact bG [0] ⟨_, rfl, rfl⟩ z144 rfl ⟨rfl, trivial⟩ (fun _ => rfl)
theorem cZ0 (m : Once) (q : Sl) (w : World) (h : At w [slo q aJ 1 m.waits]) (hb : m.waits.length ≤ 1048576) :
   Calls Tryz.prog 143 #[jX m q] w (Ret w fun v L => ∃ y : Sl, v = jX m y ∧ L = [own y 3 aJ 1 m.waits]) := by
 refine bZ Tryz.func143 rfl aA w _ rfl _ rfl _ h ⟨rfl, rfl, trivial⟩ _ (by decide) ?_
 refine aF aA z102 z102 z102 200 [((0, 0), .v (.int .i64 m.state)), ((0, 1), .v (.int .i64 m.owner)), ((0, 2), .v (.int .i64 m.value)), ((0, 3), .v (q.val m.waits.length))] [0] [_] z122 z138 ⟨rfl, trivial⟩ rfl ?_
 repeat' ((conv => whnf); (first
   | refine BothW.mk ?_ ?_
   | refine AllSl.mk fun y => ?_
   | (refine oS rfl rfl ?_; refine mQ (ti := aU tab) aE aA (xs := ([] : List Int)) rfl rfl rfl rfl rfl rfl rfl rfl rfl (by decide) ⟨rfl, rfl⟩ z39 z35 z43 z43 z100 (fun y => ?_))
   | fail))
 exact bG [0] ⟨_, rfl, rfl⟩ z144 rfl ⟨rfl, trivial⟩ (fun _ => rfl)
theorem eL0 (m : Sem) (q : Sl) (t n : Int) (w : World) (h : At w [slo q bV 2 m.queue]) (ok : SemOk m) (ht : aZ t = true) (hn : t ∉ m.queue.map (·.t)) (h1 : 1 ≤ n) (h2 : n ≤ m.limit) :
   Calls Tryz.prog 133 #[oC m q, .int .i64 t, .int .i64 n] w (Ret w (AcqR (m.acquire t n))) := by
 have hb := ok.q6
 have l9 := ok.l9
 have fl := ok.fl
 refine gQ Tryz.func133 rfl aA w _ rfl _ rfl _ h ⟨rfl, rfl, trivial⟩ _ _ _ (by decide) ?_
 refine aB _ jE0 rfl rfl rfl rfl ⟨rfl, rfl⟩ (fun A w hW => qC m q w ⟨z34, trivial⟩ (by omega)) ?_
 rintro v L ⟨b, rfl, hbb, rfl⟩
 obtain rfl : b = true := hbb.2 ok
 refine CaseB.mk (fun g => by simp at g) (fun _ => ?_)
 refine aB _ rK rfl rfl rfl rfl ⟨rfl, rfl⟩ (fun A w hW => fY _ w) ?_
 rintro v L ⟨rfl, rfl⟩
 refine CaseB.mk (fun g => by rw [ht] at g; simp at g) (fun _ => ?_)
 refine CaseB.mk (fun g => by have g' := of_decide_eq_true g; omega) (fun _ => ?_)
 refine CaseB.mk (fun g => by have g' := of_decide_eq_true g; omega) (fun _ => ?_)
 refine aB _ nN0 rfl rfl rfl rfl ⟨rfl, rfl⟩ (fun A w hW => cL0 q m.queue t w ⟨z34, trivial⟩ (by omega)) ?_
 rintro v L ⟨a, rfl, ha, rfl⟩
 have ha0 : ¬ 0 ≤ a := fun h => hn ((eR _ _).1 (ha ▸ h))
 refine CaseB.mk (fun g => by have g' := of_decide_eq_true g; exact (ha0 g').elim) (fun _ => ?_)
 refine aB _ fK0 rfl rfl rfl rfl ⟨rfl, rfl⟩ (fun A w hW => tQ m q w ⟨z34, trivial⟩ (by omega)) ?_
 rintro v L ⟨y, rfl, rfl⟩
 have hac : ¬ (m.queue = [] ∧ n ≤ m.free) → m.acquire t n = ({ m with queue := m.queue ++ [⟨t, n⟩] }, false) := fun h => by rw [Sem.acquire, if_neg h]
 apply CaseB.mk <;> intro g
 · have hq : m.queue = [] := List.eq_nil_of_length_eq_zero (by have g' := of_decide_eq_true g; omega)
   apply CaseB.mk <;> intro g
   · have hf : n ≤ m.free := by simpa using g
     have hw := oK (a := m.free) (b := n) (by omega) (by omega)
     have e : m.acquire t n = ({ m with free := m.free - n }, true) := by rw [Sem.acquire, if_pos ⟨hq, hf⟩]
     rw [e]
     exact bG [0] ⟨y, rfl, rfl⟩ ⟨.inl ⟨_, rfl, z75⟩, trivial⟩ rfl ⟨rfl, trivial⟩ (fun _ => z75)
   · have hf : ¬ n ≤ m.free := by simpa using g
     rw [hac fun h => hf h.2]
     refine AllSl.mk fun z => ?_
     refine cD cH aA (ys := [⟨t, n⟩]) rfl rfl rfl rfl rfl rfl rfl rfl rfl (by decide) ⟨rfl, rfl⟩ z39 z35 z43 z43 (fun y2 => ?_)
     exact bG [0] ⟨y2, rfl, rfl⟩ z144 rfl ⟨rfl, trivial⟩ (fun _ => rfl)
 · have hq : ¬ m.queue = [] := fun e => by rw [e] at g; simp at g
   rw [hac fun h => hq h.1]
   refine AllSl.mk fun z => ?_
   refine cD cH aA (ys := [⟨t, n⟩]) rfl rfl rfl rfl rfl rfl rfl rfl rfl (by decide) ⟨rfl, rfl⟩ z39 z35 z43 z43 (fun y2 => ?_)
   exact bG [0] ⟨y2, rfl, rfl⟩ z144 rfl ⟨rfl, trivial⟩ (fun _ => rfl)
structure HandZ (f0 : Int) (Q : List Waiter) where
 f : Int
 R : List Waiter
 G : List Int
 q : Sl
 y : Sl
 h : dY f0 Q = ((dY f R).1, G ++ (dY f R).2.1, (dY f R).2.2)
 l0 : 0 ≤ f
 l1 : f ≤ f0
 c : ∀ x ∈ R, 1 ≤ x.n
 n : R.length + G.length = Q.length
theorem hX0 (m : Sem) (q : Sl) (w : World) (h : At w [slo q bV 2 m.queue]) (hb : m.queue.length ≤ 100) (hf0 : 0 ≤ m.free) (hf9 : m.free ≤ 100) (hc : ∀ x ∈ m.queue, 1 ≤ x.n) :
   Calls Tryz.prog 172 #[oC m q] w (Ret w fun v L => ∃ y z : Sl, v = .tuple #[oC ⟨(dY m.free m.queue).1, m.limit, (dY m.free m.queue).2.2⟩ y, z.val (dY m.free m.queue).2.1.length] ∧ L = [own y 184 bV 2 (dY m.free m.queue).2.2, own z 3 aJ 1 (dY m.free m.queue).2.1]) := by
 refine bZ Tryz.func172 rfl aA w _ rfl _ rfl _ h ⟨rfl, rfl, trivial⟩ _ (by decide) ?_
 refine aB _ fK0 rfl rfl rfl rfl ⟨rfl, rfl⟩ (fun A w hW => tQ m q w ⟨z34, trivial⟩ (by omega)) ?_
 rintro v L ⟨y1, rfl, rfl⟩
 refine AllSl.mk fun z0 => ?_
 refine LoopW.mk ⟨HandZ m.free m.queue,
   fun y => .mk [(2, .p 1 0), (4, .p 2 0), (5, .v (y.y.val y.G.length))] 3 0 [(1, 95, 3), (2, 95, 3)] [((2, 0), .v (.int .i64 y.f)), ((2, 1), .v (.int .i64 m.limit)), ((2, 2), .v (y.q.val y.R.length))] [own y.q 184 bV 2 y.R, own y.y 3 aJ 1 y.G],
   fun y => y.R.length, ⟨m.free, m.queue, [], y1, z0, by simp, hf0, by omega, hc, by simp⟩, ?_, ?_⟩
 · exact aC [1, 0] zw2 zw0 zw2 zw5 zw4 rfl rfl
 · rintro ⟨f, R, G, q, y, hh, l0, l1, hcR, hn⟩
   simp only
   have fin : (¬ ∃ h0 : 0 < R.length, R[0].n ≤ f) → dY m.free m.queue = (f, G, R) := fun hn => by
     rw [hh, cQ0 (fun h0 hle => hn ⟨h0, hle⟩)]; simp
   refine aF aA z102 z102 z102 200 [((2, 0), .v (.int .i64 f)), ((2, 2), .v (q.val R.length))] [0] [_] z135 z145 ⟨rfl, trivial⟩ rfl ?_
   refine CaseB.mk (fun h1 => ?_) (fun h1 => ?_)
   · have h0 : 0 < R.length := by simpa using h1
     refine bO (ti := aU tab) cH aA rfl rfl rfl rfl rfl ⟨rfl, rfl⟩ (aL 0 rfl (Rd.own (o := false) (o' := false))) 0 rfl z43 (fun ad => ?_)
     refine CaseB.mk (fun h2 => ?_) (fun h2 => ?_)
     · have hle : R[0].n ≤ f := by simpa using h2
       have he := zH h0 hle
       have hw := oK (a := f) (b := R[0].n) (by omega) (by have := hcR R[0] (List.getElem_mem h0); omega)
       have hn1 := hcR R[0] (List.getElem_mem h0)
       refine aF aA z102 z102 z102 200 [((2, 2), .v (q.val R.length))] [0] [_] z146 z149 ⟨rfl, trivial⟩ rfl ?_
       refine bO (ti := aU tab) cH aA rfl rfl rfl rfl rfl ⟨rfl, rfl⟩ (aL 0 rfl (Rd.own (o := false) (o' := false))) 0 rfl z43 (fun ad => ?_)
       refine aG cH aA rfl rfl rfl rfl rfl ⟨rfl, rfl⟩ (aL 0 rfl (Rd.own (o := false) (o' := false))) 0 rfl z43 (fun ad2 => ?_)
       refine AllSl.mk fun z1 => ?_
       refine cD aE aA (xs := G) (ys := [R[0].t]) rfl rfl rfl rfl rfl rfl rfl rfl rfl (by decide) ⟨rfl, rfl⟩ z39 z35 z43 z43 (fun y2 => ?_)
       refine AllSl.mk fun z2 => ?_
       refine iG aA rfl rfl rfl rfl ⟨rfl, rfl⟩ rfl rfl z35 (1) (R.length) ((R.drop 1)).length rfl rfl z43 z43 z43 ?_
       refine cD cH aA (xs := []) rfl rfl rfl rfl rfl rfl rfl rfl rfl (by decide) ⟨rfl, rfl⟩ z39 (uK cH 1 (by omega) z35) z43 z43 (fun q2 => ?_)
       refine ⟨⟨f - R[0].n, R.drop 1, G ++ [R[0].t], q2, y2, by rw [hh, he]; simp, by omega, by omega, fun x hx => hcR x (List.mem_of_mem_drop hx), by simp; omega⟩, ?_, by simp; omega⟩
       exact aC [0, 1] zw1 zw0 zw1 zw5 zw3 rfl rfl
     · have hle : ¬ R[0].n ≤ f := by simpa using h2
       have he := fin fun ⟨_, h⟩ => hle h
       rw [he]
       exact bG [0, 1] ⟨q, y, rfl, rfl⟩ z137 rfl ⟨rfl, rfl, trivial⟩ (fun _ => rfl)
   · have h0 : ¬ 0 < R.length := by simpa using h1
     have he := fin fun ⟨h, _⟩ => h0 h
     rw [he]
     exact bG [0, 1] ⟨q, y, rfl, rfl⟩ z137 rfl ⟨rfl, rfl, trivial⟩ (fun _ => rfl)
theorem xQ (m : Sem) (q : Sl) (n : Int) (w : World) (h : At w [slo q bV 2 m.queue]) (ok : SemOk m) (h1 : 1 ≤ n) (h2 : n ≤ m.limit) :
   Calls Tryz.prog 134 #[oC m q, .int .i64 n] w (Ret w (RelR (m.release n))) := by
 have hb := ok.q6
 have l9 := ok.l9
 have fl := ok.fl
 have f0 := ok.f0
 refine cB Tryz.func134 rfl aA w _ rfl _ rfl _ h ⟨rfl, rfl, trivial⟩ _ _ (by decide) ?_
 refine aB _ jE0 rfl rfl rfl rfl ⟨rfl, rfl⟩ (fun A w hW => qC m q w ⟨z34, trivial⟩ (by omega)) ?_
 rintro v L ⟨b, rfl, hbb, rfl⟩
 obtain rfl : b = true := hbb.2 ok
 refine CaseB.mk (fun g => by simp at g) (fun _ => ?_)
 refine CaseB.mk (fun g => by have g' := of_decide_eq_true g; omega) (fun _ => ?_)
 have hw := oK (a := m.limit) (b := m.free) (by omega) (by omega)
 apply CaseB.mk <;> intro g
 · rw [hw] at g
   have hn : ¬ n ≤ m.limit - m.free := by have g' := of_decide_eq_true g; omega
   rw [Sem.release, if_neg hn]
   refine AllSl.mk fun z => ?_
   exact aH ⟨hU, z, rfl, rfl⟩ (fun _ => rfl)
 rw [hw] at g
 have hn : n ≤ m.limit - m.free := by have g' := of_decide_eq_false g; omega
 rw [Sem.release, if_pos hn]
 refine aB _ fK0 rfl rfl rfl rfl ⟨rfl, rfl⟩ (fun A w hW => tQ m q w ⟨z34, trivial⟩ (by omega)) ?_
 rintro v L ⟨y, rfl, rfl⟩
 have hw2 := cP0 (a := m.free) (b := n) (by omega) (by omega)
 refine aB _ cl172 rfl rfl rfl rfl ⟨rfl, rfl⟩ (fun A w hW => hX0 ⟨IntKind.i64.wrap (m.free + n), m.limit, m.queue⟩ y w ⟨z34, trivial⟩ (by simp only; omega) (by simp only [hw2]; omega) (by simp only [hw2]; omega) (fun x hx => (ok.cnt x hx).1)) ?_
 simp only [hw2]
 rintro v L ⟨q2, z, rfl, rfl⟩
 exact bG [0, 1] ⟨q2, z, rfl, rfl⟩ z137 rfl ⟨rfl, rfl, trivial⟩ (fun _ => rfl)
theorem kV0 (m : Once) (q : Sl) (t : Int) (w : World) (h : At w [slo q aJ 1 m.waits]) (ok : eI m) (ht : aZ t = true) (hn : t ∉ m.waits) (ho : m.state = 1 → m.owner ≠ t) :
   Calls Tryz.prog 174 #[jX m q, .int .i64 t] w (Ret w (EntR (m.enter t))) := by
 have hb := eZ ok
 refine cB Tryz.func174 rfl aA w _ rfl _ rfl _ h ⟨rfl, rfl, trivial⟩ _ _ (by decide) ?_
 refine aB _ jG0 rfl rfl rfl rfl ⟨rfl, rfl⟩ (fun A w hW => oX m q w ⟨z34, trivial⟩ (by omega)) ?_
 rintro v L ⟨b, rfl, hbb, rfl⟩
 obtain rfl : b = true := hbb.2 ok
 refine CaseB.mk (fun g => by simp at g) (fun _ => ?_)
 refine aB _ rK rfl rfl rfl rfl ⟨rfl, rfl⟩ (fun A w hW => fY _ w) ?_
 rintro v L ⟨rfl, rfl⟩
 refine CaseB.mk (fun g => by rw [ht] at g; simp at g) (fun _ => ?_)
 refine aB _ nM0 rfl rfl rfl rfl ⟨rfl, rfl⟩ (fun A w hW => cZ0 m q w ⟨z34, trivial⟩ (by omega)) ?_
 rintro v L ⟨y, rfl, rfl⟩
 apply CaseB.mk <;> intro g
 · have e0 : m.state = 0 := by simpa using g
   rw [Once.enter, if_pos e0]
   exact bG [99] ⟨hU, rfl, rfl⟩ z131 rfl ⟨rfl, trivial⟩ (fun _ => rfl)
 have e0 : ¬ m.state = 0 := by simpa using g
 rw [Once.enter, if_neg e0]
 apply CaseB.mk <;> intro g
 · have e2 : m.state = 2 := by simpa using g
   rw [if_neg (by omega)]
   exact bG [0] ⟨y, rfl, rfl⟩ z144 rfl ⟨rfl, trivial⟩ (fun _ => rfl)
 have e2 : ¬ m.state = 2 := by simpa using g
 have e1 : m.state = 1 := by
   rcases ok with h | h | h
   · exact (e0 h.1).elim
   · exact h.1
   · exact (e2 h.1).elim
 rw [if_pos e1]
 have hno := ho e1
 refine CaseB.mk (fun g => by exact (hno (by have g' : t = m.owner := z98; exact g'.symm)).elim) (fun _ => ?_)
 refine aB _ uG rfl rfl rfl rfl ⟨rfl, rfl⟩ (fun A w hW => kW q m.waits t w ⟨z34, trivial⟩ (by omega)) ?_
 rintro v L ⟨rfl, rfl⟩
 refine CaseB.mk (fun g => by have g' := of_decide_eq_true g; exact (hn ((eR _ _).1 g')).elim) (fun _ => ?_)
 refine AllSl.mk fun z => ?_
 refine cD aE aA (ys := [t]) rfl rfl rfl rfl rfl rfl rfl rfl rfl (by decide) ⟨rfl, rfl⟩ z39 z35 z43 z43 (fun y2 => ?_)
 exact bG [0] ⟨y2, rfl, rfl⟩ z144 rfl ⟨rfl, trivial⟩ (fun _ => rfl)
theorem hY0 (m : Once) (q : Sl) (t u : Int) (w : World) (h : At w [slo q aJ 1 m.waits]) (ok : eI m) (h1 : m.state = 1) (ho : m.owner = t) (hv : aV u = true) :
   Calls Tryz.prog 173 #[jX m q, .int .i64 t, .int .i64 u] w (Ret w (FinR (m.finish t u))) := by
 have hb := eZ ok
 refine gQ Tryz.func173 rfl aA w _ rfl _ rfl _ h ⟨rfl, rfl, trivial⟩ _ _ _ (by decide) ?_
 refine aB _ nP0 rfl rfl rfl rfl ⟨rfl, rfl⟩ (fun A w hW => kA0 m q t w ⟨z34, trivial⟩ (by omega)) ?_
 rintro v L ⟨b, rfl, hbb, rfl⟩
 obtain rfl : b = true := hbb.2 ⟨ok, h1, ho⟩
 refine CaseB.mk (fun g => by simp at g) (fun _ => ?_)
 refine aB _ pU rfl rfl rfl rfl ⟨rfl, rfl⟩ (fun A w hW => gF _ w) ?_
 rintro v L ⟨rfl, rfl⟩
 refine CaseB.mk (fun g => by simp [hv] at g) (fun _ => ?_)
 refine AllSl.mk fun z => ?_
 refine cD aE aA (xs := []) rfl rfl rfl rfl rfl rfl rfl rfl rfl (by decide) ⟨rfl, rfl⟩ z39 z35 z43 z43 (fun y => ?_)
 exact bG [99, 0] ⟨hU, y, rfl, rfl⟩ z125 rfl ⟨rfl, rfl, trivial⟩ (fun _ => rfl)
theorem kW0 (m : Group) (q : Sl) (n : Int) (w : World) (h : At w [slo q aJ 1 m.waits]) (ok : fD m) (h1 : -9 ≤ n) (h9 : n ≤ 9) :
   Calls Tryz.prog 137 #[kN m q, .int .i64 n] w (Ret w (AddR (m.add n))) := by
 have hb := fQ ok
 have hv : 0 ≤ m.count ∧ m.count ≤ 99 := by have := ok.1; simp [aV] at this; omega
 have hw : IntKind.i64.wrap (m.count + n) = m.count + n := by rw [IntKind.wrap_i64]; omega
 refine cB Tryz.func137 rfl aA w _ rfl _ rfl _ h ⟨rfl, rfl, trivial⟩ _ _ (by decide) ?_
 refine aB _ jF0 rfl rfl rfl rfl ⟨rfl, rfl⟩ (fun A w hW => nX m q w ⟨z34, trivial⟩ (by omega)) ?_
 rintro v L ⟨b, rfl, hbb, rfl⟩
 obtain rfl : b = true := hbb.2 ok
 refine CaseB.mk (fun g => by simp at g) (fun _ => ?_)
 refine CaseB.mk (fun g => by have g' := of_decide_eq_true g; omega) (fun _ => ?_)
 refine CaseB.mk (fun g => by have g' := of_decide_eq_true g; omega) (fun _ => ?_)
 refine aB _ pU rfl rfl rfl rfl ⟨rfl, rfl⟩ (fun A w hW => gF _ w) ?_
 rw [hw]
 rintro v L ⟨rfl, rfl⟩
 apply CaseB.mk <;> intro g
 · have hn : ¬ aV (m.count + n) = true := by simpa using g
   rw [Group.add, if_neg hn]
   refine AllSl.mk fun z => ?_
   exact aH ⟨hU, z, rfl, rfl⟩ (fun _ => rfl)
 have hn : aV (m.count + n) = true := by simpa using g
 rw [Group.add, if_pos hn]
 apply CaseB.mk <;> intro g
 · rw [hw] at g
   have h0 : m.count + n = 0 := by simpa using g
   rw [if_pos h0]
   refine AllSl.mk fun z => ?_
   refine cD aE aA (xs := []) rfl rfl rfl rfl rfl rfl rfl rfl rfl (by decide) ⟨rfl, rfl⟩ z39 z35 z43 z43 (fun y => ?_)
   exact bG [99, 0] ⟨hU, y, rfl, rfl⟩ z125 rfl ⟨rfl, rfl, trivial⟩ (fun _ => rfl)
 rw [hw] at g
 have h0 : ¬ m.count + n = 0 := by simpa using g
 rw [if_neg h0]
 refine AllSl.mk fun z => ?_
 refine cD aE aA (xs := []) rfl rfl rfl rfl rfl rfl rfl rfl rfl (by decide) ⟨rfl, rfl⟩ z39 z35 z43 z43 (fun y => ?_)
 refine AllSl.mk fun z2 => ?_
 exact bG [1, 0] ⟨y, z2, rfl, rfl⟩ ⟨.inl ⟨_, rfl, z72⟩, .inl ⟨_, rfl, z72⟩, trivial⟩ rfl ⟨rfl, rfl, trivial⟩ (fun _ => z72)
theorem mV0 (m : Group) (q : Sl) (t : Int) (w : World) (h : At w [slo q aJ 1 m.waits]) (ok : fD m) (ht : aZ t = true) (hn : t ∉ m.waits) :
   Calls Tryz.prog 138 #[kN m q, .int .i64 t] w (Ret w (WaiR (m.wait t))) := by
 have hb := fQ ok
 refine cB Tryz.func138 rfl aA w _ rfl _ rfl _ h ⟨rfl, rfl, trivial⟩ _ _ (by decide) ?_
 refine aB _ jF0 rfl rfl rfl rfl ⟨rfl, rfl⟩ (fun A w hW => nX m q w ⟨z34, trivial⟩ (by omega)) ?_
 rintro v L ⟨b, rfl, hbb, rfl⟩
 obtain rfl : b = true := hbb.2 ok
 refine CaseB.mk (fun g => by simp at g) (fun _ => ?_)
 refine aB _ rK rfl rfl rfl rfl ⟨rfl, rfl⟩ (fun A w hW => fY _ w) ?_
 rintro v L ⟨rfl, rfl⟩
 refine CaseB.mk (fun g => by rw [ht] at g; simp at g) (fun _ => ?_)
 refine aB _ uG rfl rfl rfl rfl ⟨rfl, rfl⟩ (fun A w hW => kW q m.waits t w ⟨z34, trivial⟩ (by omega)) ?_
 rintro v L ⟨rfl, rfl⟩
 refine CaseB.mk (fun g => by have g' := of_decide_eq_true g; exact (hn ((eR _ _).1 g')).elim) (fun _ => ?_)
 refine pW Sl (fun y => .mk [(1, .v (.int .i64 t)), (2, .p 0 0), (4, .p 1 0), (7, .p 2 0)] 3 0 [(0, 108, 2), (1, 108, 2), (2, 108, 2)] [((0, 0), .v (.int .i64 m.count)), ((2, 0), .v (.int .i64 m.count)), ((2, 1), .v (y.val m.waits.length))] [own y 3 aJ 1 m.waits]) ?_ ?_
 · refine aF aA z102 z102 z102 200 [((0, 0), .v (.int .i64 m.count)), ((0, 1), .v (q.val m.waits.length))] [0] [_] z135 z145 ⟨rfl, trivial⟩ rfl ?_
   repeat' ((conv => whnf); (first
     | refine BothW.mk ?_ ?_
     | refine AllSl.mk fun y => ?_
     | (refine oS rfl rfl ?_; refine mQ (ti := aU tab) aE aA (xs := ([] : List Int)) rfl rfl rfl rfl rfl rfl rfl rfl rfl (by decide) ⟨rfl, rfl⟩ z39 z35 z43 z43 z100 (fun y => ?_))
     | fail))
   all_goals
     refine ⟨y, ?_⟩
     exact aC [0] zw2 zw0 zw2 zw5 zw4 rfl rfl
 intro y
 apply CaseB.mk <;> intro g
 · have h0 : m.count = 0 := by simpa using g
   have hw0 : m.waits = [] := by
     rcases ok.2.2 with h | h
     · omega
     · exact h
   rw [Group.wait, if_pos h0]
   exact bG [0] ⟨y, rfl, rfl⟩ ⟨.inl ⟨_, rfl, z44⟩, trivial⟩ rfl ⟨rfl, trivial⟩ (fun _ => z44)
 have h0 : ¬ m.count = 0 := by simpa using g
 rw [Group.wait, if_neg h0]
 refine AllSl.mk fun z => ?_
 refine cD aE aA (ys := [t]) rfl rfl rfl rfl rfl rfl rfl rfl rfl (by decide) ⟨rfl, rfl⟩ z39 z35 z43 z43 (fun y2 => ?_)
 exact bG [0] ⟨y2, rfl, rfl⟩ z144 rfl ⟨rfl, trivial⟩ (fun _ => rfl)
theorem zO (m : Barrier) (q : Sl) (t : Int) (w : World) (h : At w [slo q aJ 1 m.waits]) (ok : dP m) (ht : aZ t = true) (hn : t ∉ m.waits) :
   Calls Tryz.prog 139 #[jE m q, .int .i64 t] w (Ret w (ArrR (m.arrive t))) := by
 have hb := gA ok
 obtain ⟨p1, p6, r0, r9, wl, dis⟩ := ok
 have hw : IntKind.i64.wrap (m.round + 1) = m.round + 1 := by rw [IntKind.wrap_i64]; omega
 refine cB Tryz.func139 rfl aA w _ rfl _ rfl _ h ⟨rfl, rfl, trivial⟩ _ _ (by decide) ?_
 refine aB _ nO0 rfl rfl rfl rfl ⟨rfl, rfl⟩ (fun A w hW => pH m q w ⟨z34, trivial⟩ (by omega)) ?_
 rintro v L ⟨b, rfl, hbb, rfl⟩
 obtain rfl : b = true := hbb.2 ⟨p1, p6, r0, r9, wl, dis⟩
 refine CaseB.mk (fun g => by simp at g) (fun _ => ?_)
 refine aB _ rK rfl rfl rfl rfl ⟨rfl, rfl⟩ (fun A w hW => fY _ w) ?_
 rintro v L ⟨rfl, rfl⟩
 refine CaseB.mk (fun g => by rw [ht] at g; simp at g) (fun _ => ?_)
 refine aB _ uG rfl rfl rfl rfl ⟨rfl, rfl⟩ (fun A w hW => kW q m.waits t w ⟨z34, trivial⟩ (by omega)) ?_
 rintro v L ⟨rfl, rfl⟩
 refine CaseB.mk (fun g => by have g' := of_decide_eq_true g; exact (hn ((eR _ _).1 g')).elim) (fun _ => ?_)
 refine AllSl.mk fun z => ?_
 refine cD aE aA (xs := []) rfl rfl rfl rfl rfl rfl rfl rfl rfl (by decide) ⟨rfl, rfl⟩ z39 z35 z43 z43 (fun y => ?_)
 refine AllSl.mk fun z2 => ?_
 refine cD aE aA (xs := m.waits) (ys := [t]) rfl rfl rfl rfl rfl rfl rfl rfl rfl (by decide) ⟨rfl, rfl⟩ z39 z35 z43 z43 (fun y2 => ?_)
 have hl : (m.waits ++ [t]).length = m.waits.length + 1 := by simp
 apply CaseB.mk <;> intro g
 · have h0 : (m.waits.length : Int) + 1 < m.parties := by have g' := of_decide_eq_true g; rw [hl] at g'; omega
   rw [Barrier.arrive, if_pos h0]
   refine AllSl.mk fun z3 => ?_
   exact bG [1, 0] ⟨y2, z3, rfl, rfl⟩ z137 rfl ⟨rfl, rfl, trivial⟩ (fun _ => rfl)
 have h0 : ¬ (m.waits.length : Int) + 1 < m.parties := by have g' := of_decide_eq_false g; rw [hl] at g'; omega
 rw [Barrier.arrive, if_neg h0]
 apply CaseB.mk <;> intro g
 · have h9 : m.round = 9999 := by simpa using g
   rw [if_pos h9]
   refine AllSl.mk fun z3 => ?_
   exact aH ⟨z3, rfl, rfl⟩ (fun _ => rfl)
 have h9 : ¬ m.round = 9999 := by simpa using g
 rw [if_neg h9]
 refine AllSl.mk fun z3 => ?_
 exact bG [0, 1] ⟨z3, y2, rfl, rfl⟩ ⟨.inl ⟨_, rfl, z71⟩, .inl ⟨_, rfl, z71⟩, trivial⟩ rfl ⟨rfl, rfl, trivial⟩ (fun _ => z71)
theorem tR (y : StateH) (f : Int) (w : World) :
   Calls Tryz.prog 135 #[aM y, .int .i64 f] w (Ret w fun v L => v = aM { y with fault := f } ∧ L = []) := by
 refine cB Tryz.func135 rfl aA w _ rfl _ rfl [] trivial trivial _ _ (by decide) ?_
 exact aH ⟨rfl, rfl⟩ (fun _ => rfl)
def stV (y : StateH) (n m : Nat) (zs : Sl) (ln : Nat) : Value := .agg #[y.h0.val n, y.h1.val m, y.h2.val y.sems.length, y.h3.val y.onces.length, y.h4.val y.groups.length, y.h5.val y.barriers.length, y.h6.val y.chans.length, zs.val ln, .int .i64 y.fault]
theorem kQ (n m : Nat) (P : ProgH) (y : StateH) (zs : Sl) (ln : Nat) (z : Sl) (who : List Int) (s : State) (w : World)
   (h : AtG w [own y.h0 3 aJ 1 s.places, own y.h1 3 aJ 1 s.status] [fR (aY P), slo z aJ 1 who])
   (h1 : s.places.length = n) (h2 : s.status.length = m) (hm : n = m) (hn : P.threads.length = n) (hw : ∀ t ∈ who, 0 ≤ t ∧ t < n) (hl : who.length ≤ 100) (hp : ∀ a ∈ s.places, 0 ≤ a ∧ a ≤ 100) (hn4 : n ≤ 100) :
   Calls Tryz.prog 140 #[dW P, stV y n m zs ln, z.val who.length] w (eA0 w [own y.h0 3 aJ 1 s.places, own y.h1 3 aJ 1 s.status]
     fun v L => v = stV y n m zs ln ∧ L = [own y.h0 3 aJ 1 (onM P.pure who s).places, own y.h1 3 aJ 1 (onM P.pure who s).status]) := by
 subst hm
 refine qT Tryz.func140 rfl aA w _ rfl _ rfl _ _ h ⟨rfl, rfl, rfl, rfl, trivial⟩ _ _ rfl rfl ?_
 refine LoopW.mk ⟨{ q : Nat × List Int × List Int // q.1 ≤ who.length ∧ q.2.1 = (onM P.pure (who.take q.1) s).places ∧ q.2.2 = (onM P.pure (who.take q.1) s).status },
   fun q => .mk [(2, .v (z.val who.length)), (3, .p 0 0), (4, .p 1 0), (6, .p 2 0), (7, .v (.int .i64 (q.1.1 : Int)))] 3 0 [(0, 26, 5), (1, 35, 9), (2, 35, 9)]
     [((0, 0), .v (P.h0.val P.sems.length)), ((0, 1), .v (P.h1.val P.groups.length)), ((0, 2), .v (P.h2.val P.barriers.length)), ((0, 3), .v (P.h3.val P.rooms.length)), ((0, 4), .v (P.h4.val P.threads.length)), ((1, 0), .v (y.h0.val q.1.2.1.length)), ((1, 1), .v (y.h1.val q.1.2.2.length)), ((1, 2), .v (y.h2.val y.sems.length)), ((1, 3), .v (y.h3.val y.onces.length)), ((1, 4), .v (y.h4.val y.groups.length)), ((1, 5), .v (y.h5.val y.barriers.length)), ((1, 6), .v (y.h6.val y.chans.length)), ((1, 7), .v (zs.val ln)), ((1, 8), .v (.int .i64 y.fault))]
     [own y.h0 3 aJ 1 q.1.2.1, own y.h1 3 aJ 1 q.1.2.2, fR (aY P), slo z aJ 1 who],
   fun q => who.length - q.1.1, ⟨(0, s.places, s.status), Nat.zero_le _, rfl, rfl⟩, ?_, ?_⟩
 · exact aC [0, 1, 2, 3] zw12 zw0 zw12 zw5 zw27 rfl rfl
 rintro ⟨⟨k, pl, st⟩, hk, hpl, hst⟩
 simp only at hk hpl hst
 have l1 : pl.length = n := by rw [hpl, (aT _ _ _).1, h1]
 have l2 : st.length = n := by rw [hst, (aT _ _ _).2, h2]
 refine CaseB.mk (fun g3 => ?_) (fun g3 => ?_)
 · have hlt : k < who.length := by simpa using g3
   have hw' := bD k _ hlt (by omega)
   obtain ⟨t0, t1⟩ := hw _ (List.getElem_mem hlt)
   obtain ⟨τ, hτ⟩ : ∃ τ : Nat, who[k] = (τ : Int) := ⟨_, (Int.toNat_of_nonneg t0).symm⟩
   have hτn : τ < n := by omega
   have hτp : τ < pl.length := by omega
   have hτs : τ < st.length := by omega
   have hτP : τ < P.threads.length := by omega
   have hb := hZ P.pure (who.take k) s 100 (by omega) hp
   rw [← hpl] at hb
   have hpb := hb _ (List.getElem_mem hτp)
   have htl : ((who.take k).length : Int) ≤ 100 := by simp; omega
   have hw1 : IntKind.i64.wrap (pl[τ] + 1) = pl[τ] + 1 := by rw [IntKind.wrap_i64]; omega
   have hgo := cS0 P.pure who s hlt
   have hset : (pl.set τ (pl[τ] + 1))[τ]'(by simpa using hτp) = pl[τ] + 1 := by simp
   have hpg : (onM P.pure (who.take k) s).places.getD τ 0 = pl[τ] := by rw [← hpl, List.getD_eq_getElem?_getD, List.getElem?_eq_getElem hτp]; rfl
   have hPg : (P.pure.threads.getD τ []).length = P.threads[τ].m.length := by simp [ProgH.pure, List.getD_eq_getElem?_getD, hτP]
   have hgo1 : (onM P.pure (who.take (k + 1)) s).places = pl.set τ (pl[τ] + 1) := by rw [hgo, hτ]; simp only [goM, Int.toNat_natCast, hpg, hpl]
   have hgo2 : (onM P.pure (who.take (k + 1)) s).status = st.set τ (nO P.pure τ (pl[τ] + 1)) := by rw [hgo, hτ]; simp only [goM, Int.toNat_natCast, hpg, hst]
   refine aG aE aA rfl rfl rfl rfl rfl ⟨rfl, rfl⟩ z35 k rfl z43 (fun ad => ?_)
   refine gG 0 rfl (show 0 < pl.length by omega) fun gg hgg _ _ => ?_
   refine aF aA z102 z102 z102 200 [((1, 0), .v (y.h0.val pl.length))] [] [] z146 z149 trivial rfl ?_
   refine jO (ti := aU tab) aA rfl rfl rfl rfl rfl ⟨rfl, rfl⟩ hgg τ hτ hτp ?_
   refine gB0 (ti := aU tab) aE 0 aA rfl rfl rfl ⟨rfl, rfl⟩ rfl hgg τ 0 rfl hτp rfl ?_
   refine jO (ti := aU tab) aA rfl rfl rfl rfl rfl ⟨rfl, rfl⟩ hgg τ hτ hτp ?_
   refine gH (ti := aU tab) aE 0 aA rfl rfl rfl rfl rfl rfl rfl rfl hgg τ 0 (pl[τ] + 1) rfl hτp rfl [.int .i64 (pl[τ] + 1)] (fun _ => by simp [SV.den, hw1]) rfl z100 ?_
   obtain ⟨pl2, hpl2⟩ : ∃ pl2, pl2 = pl.set τ (pl[τ] + 1) := ⟨_, rfl⟩
   have l3 : pl2.length = pl.length := by rw [hpl2, List.length_set]
   have hτ2 : τ < pl2.length := by omega
   have hg2 : pl2[τ] = pl[τ] + 1 := by simp [hpl2]
   rw [← hpl2] at hgo1 ⊢
   refine gG 1 rfl (show 0 < st.length by omega) fun gg2 hgg2 _ _ => ?_
   refine aF aA z102 z102 z102 200 [((0, 0), .v (P.h0.val P.sems.length)), ((0, 1), .v (P.h1.val P.groups.length)), ((0, 2), .v (P.h2.val P.barriers.length)), ((0, 3), .v (P.h3.val P.rooms.length)), ((0, 4), .v (P.h4.val P.threads.length)), ((1, 0), .v (y.h0.val pl.length)), ((1, 1), .v (y.h1.val st.length))] [0] [_] z112 z127 ⟨rfl, trivial⟩ rfl ?_
   refine bO (ti := aU tab) (xs := pl2) aE aA rfl (by rw [l3]; rfl) rfl rfl rfl ⟨rfl, rfl⟩ (aL 0 rfl (Rd.own (o := false) (o' := false))) τ hτ hτ2 (fun ad3 => ?_)
   rw [hg2]
   refine bN _ nG0 rfl rfl rfl rfl ⟨rfl, rfl⟩ (fun A w hW => cX0 P _ _ τ hτP hτ w ⟨hW.get 2 rfl (.refl _), trivial⟩) ?_
   rintro v L ⟨rfl, rfl⟩
   refine jO (ti := aU tab) aA rfl rfl rfl rfl rfl ⟨rfl, rfl⟩ hgg2 τ hτ hτs ?_
   refine gH (ti := aU tab) aE 1 aA rfl rfl rfl rfl rfl rfl rfl rfl hgg2 τ 0 (if pl[τ] + 1 = ((P.threads[τ]).m.length : Int) then 3 else 0) rfl hτs rfl [.int .i64 (if pl[τ] + 1 = ((P.threads[τ]).m.length : Int) then 3 else 0)] (fun _ => rfl) rfl z100 ?_
   refine ⟨⟨(k + 1, pl2, st.set τ (if pl[τ] + 1 = ((P.threads[τ]).m.length : Int) then 3 else 0)), hlt, hgo1.symm, by rw [hgo2, nO, hPg]⟩, ?_, by simp only; omega⟩
   refine aC [1, 0, 2, 3] ?_ ?_ ?_ ?_ ?_ rfl rfl
   · exact zw19
   · exact zw0
   · exact zw19
   · exact zw5
   · repeat (first | exact trivial | refine ⟨.inl ⟨_, rfl, (by first | rfl | ((first | exact congrArg (fun z => SV.v (Value.int .i64 z)) hw' | (simp only [l3]; done) | (simp only [List.length_set]; done))))⟩, ?_⟩ | refine ⟨.inr z139, ?_⟩)
 · have hge : who.length ≤ k := by simpa using g3
   rw [List.take_of_length_le hge] at hpl hst
   rw [← hpl, ← hst]
   exact kS [0, 1] ⟨rfl, rfl⟩ ⟨.inl ⟨_, rfl, z45⟩, .inl ⟨_, rfl, z45⟩, trivial⟩ rfl ⟨rfl, rfl, trivial⟩ (fun _ => z45)
theorem lI {E : Env} {o : Oper} {Ms : List ((Nat × Nat) × SV)} {Fs : List Fct} {next : St → Prop} {T : List (Nat × SV)} {n c : Nat} {B : List (Nat × TypeId × Nat)} {M : List ((Nat × Nat) × SV)} {F : List Fct}
   (R : Value → List Fct → Prop) (ix : List Nat) {G : List Fct} {k : Call} {fo : Operand} {g : FuncId} {cap : List (Nat × Nat)} {l : List SV} {d : Nat} (hc : aD E.P g = true)
   (hop : o.op = .call k) (hk : k.callee = .value fo) (hf : bF T fo = some (.f g cap)) (ha : jB T k.args.toList = some l) (hd : Dst E o d) (hG : FK F ix G) (hok : lD G) (hkeep : kM Fs F → ∀ L, kM Fs (L ++ jC ix 0 F))
   (hcall : ∀ A w, WD E A n B M F w → Calls E.P g ((l.map (SV.den A)) ++ cap.map (fun x => ptr A x.1 x.2)).toArray w (eA0 w G R))
   (hnext : ∀ v L, R v L → next (.mk ((d, .v v) :: T) n (c + 1) B M (L ++ jC ix 0 F))) :
   OpW (opD E o Ms Fs next T n c B M F) := by
 refine ⟨fun hkm hkf A a w hW hT => ?_⟩
 unfold Oper.wp
 rw [jL hT hc hop hk hf ha, Oper.upon_enter]
 refine (hcall A w hW).mono ?_
 rintro e w' ⟨v, L, rfl, he, hL, hR⟩
 refine ⟨A, _, n, _, B, M, _, fun _ _ => rfl, Nat.le_refl _, fun _ h => h, hkm, hkeep hkf L, hW.callG hG hok he hL, fun w2 => ?_, hnext v L hR⟩
 rw [hd.1]
 exact (hT.step w2).put (v := .v v) hd.lt trivial
def Fct.fresh : Fct → Fct
 | .sl _ i sz cs n => .sl false i sz cs n
 | .own _ i _ sz cs n => .sl false i sz cs n
 | .other _ _ foot P st => .other false false foot P st
theorem tS : ∀ {f g : Fct}, Rd f g.aged → Rd f (Fct.fresh g)
 | _, .sl .., h => ⟨h.p, h.foot⟩
 | _, .own .., h => ⟨h.p, h.foot⟩
 | _, .other .., h => ⟨h.p, h.foot⟩
abbrev fN (G : List Fct) : Fct := fB false (G.map Fct.fresh)
theorem vN (G : List Fct) : Rd (fN G) (fR G) := by
 have key : ∀ g : Fct, (∀ w, (Fct.fresh g).P w → g.aged.P w) ∧ ∀ b, g.aged.foot b → (Fct.fresh g).foot b := fun g => by
   cases g <;> exact z147
 refine ⟨fun w hw g hg => ?_, ?_⟩
 · obtain ⟨f, hf, rfl⟩ := List.mem_map.1 hg
   exact (key f).1 w (hw _ (List.mem_map_of_mem hf))
 · rintro b ⟨g, hg, hb⟩
   obtain ⟨f, hf, rfl⟩ := List.mem_map.1 hg
   exact ⟨_, List.mem_map_of_mem hf, (key f).2 b hb⟩
theorem Shift.pack {F G : List Fct} (hG : ∀ g ∈ G, ∃ f ∈ F, f.old = false ∧ Rd f g.aged) : Shift F [fN G] := by
 intro E A n B M w h
 refine ⟨h.key, h.inj, h.mem, h.a0, h.n0, h.ext, fun f hf => ?_, List.pairwise_singleton _ _⟩
 obtain rfl := List.mem_singleton.1 hf
 refine ⟨fun g' hg' => ?_, ?_, ?_⟩
 · obtain ⟨g, hg, rfl⟩ := List.mem_map.1 hg'
   obtain ⟨f, hf, _, hr⟩ := hG g hg
   exact (tS hr).p w (h.fct f hf).1
 · rintro b ⟨g', hg', hb⟩
   obtain ⟨g, hg, rfl⟩ := List.mem_map.1 hg'
   obtain ⟨f, hf, _, hr⟩ := hG g hg
   exact (h.fct f hf).2.1 b ((tS hr).foot b hb)
 · rintro _ b ⟨g', hg', hb⟩
   obtain ⟨g, hg, rfl⟩ := List.mem_map.1 hg'
   obtain ⟨f, hf, ho, hr⟩ := hG g hg
   exact (h.fct f hf).2.2 ho b ((tS hr).foot b hb)
theorem eN {F : List Fct} (y : StateH) (ho : ∀ g ∈ qH y, g ∈ F) (hin : ∀ g ∈ gW y, ∃ f ∈ F, f.old = false ∧ Rd f g.aged) : ∀ g ∈ aK y, ∃ f ∈ F, f.old = false ∧ Rd f g.aged := by
 intro g hg
 rcases List.mem_append.1 ((nP y).mem_iff.1 hg) with hg | hg
 · refine ⟨g, ho g hg, ?_, .aged g⟩
   simp only [qH, List.mem_cons, List.not_mem_nil, or_false] at hg
   rcases hg with rfl | rfl | rfl | rfl | rfl | rfl | rfl | rfl <;> rfl
 · exact hin g hg
theorem lB {Zs G : List Fct} (k : Nat) (hk : Zs[k]? = some (fO G)) {g : Fct} (hg : g ∈ G) : ∃ f ∈ Zs, f.old = false ∧ Rd f g.aged := ⟨_, List.mem_of_getElem? hk, rfl, .ofO ⟨g, hg, .refl _⟩⟩
theorem mH {Zs : List Fct} (k : Nat) {g : Fct} (hk : Zs[k]? = some g) (ho : g.old = false) : ∃ f ∈ Zs, f.old = false ∧ Rd f g.aged := ⟨g, List.mem_of_getElem? hk, ho, .aged g⟩
theorem kX0 (y : StateH) (i : Nat) (h : i < y.sems.length) : RdIn (gW y) (slo (y.sems[i]).q bV 2 (y.sems[i]).m.queue) :=
 RdIn.own (o := false) (e := 184) (List.mem_append_left _ (List.mem_flatMap.2 ⟨_, List.getElem_mem h, by simp [oD]⟩))
theorem kY0 (y : StateH) (i : Nat) (h : i < y.onces.length) : RdIn (gW y) (slo (y.onces[i]).q aJ 1 (y.onces[i]).m.waits) :=
 RdIn.own (o := false) (e := 3) (List.mem_append_right _ (List.mem_append_left _ (List.mem_flatMap.2 ⟨_, List.getElem_mem h, by simp [mW]⟩)))
theorem bA0 (y : StateH) (i : Nat) (h : i < y.groups.length) : RdIn (gW y) (slo (y.groups[i]).q aJ 1 (y.groups[i]).m.waits) :=
 RdIn.own (o := false) (e := 3) (List.mem_append_right _ (List.mem_append_right _ (List.mem_append_left _ (List.mem_flatMap.2 ⟨_, List.getElem_mem h, by simp [jD]⟩))))
theorem zP (y : StateH) (i : Nat) (h : i < y.barriers.length) : RdIn (gW y) (slo (y.barriers[i]).q aJ 1 (y.barriers[i]).m.waits) :=
 RdIn.own (o := false) (e := 3) (List.mem_append_right _ (List.mem_append_right _ (List.mem_append_right _ (List.mem_append_left _ (List.mem_flatMap.2 ⟨_, List.getElem_mem h, by simp [eC]⟩)))))
theorem bB0 (y : StateH) (i : Nat) (h : i < y.chans.length) : RdIn (gW y) (slo (y.chans[i]).q0 aJ 1 (y.chans[i]).m.items) :=
 RdIn.own (o := false) (e := 3) (List.mem_append_right _ (List.mem_append_right _ (List.mem_append_right _ (List.mem_append_right _ (List.mem_flatMap.2 ⟨_, List.getElem_mem h, by simp [gM]⟩)))))
theorem bC0 (y : StateH) (i : Nat) (h : i < y.chans.length) : RdIn (gW y) (slo (y.chans[i]).q1 fX 2 (y.chans[i]).m.senders) :=
 RdIn.own (o := false) (e := 187) (List.mem_append_right _ (List.mem_append_right _ (List.mem_append_right _ (List.mem_append_right _ (List.mem_flatMap.2 ⟨_, List.getElem_mem h, by simp [gM]⟩)))))
theorem bD0 (y : StateH) (i : Nat) (h : i < y.chans.length) : RdIn (gW y) (slo (y.chans[i]).q2 aJ 1 (y.chans[i]).m.getters) :=
 RdIn.own (o := false) (e := 3) (List.mem_append_right _ (List.mem_append_right _ (List.mem_append_right _ (List.mem_append_right _ (List.mem_flatMap.2 ⟨_, List.getElem_mem h, by simp [gM]⟩)))))
theorem Rdy.lens {P : ProgH} {y : StateH} {k : Nat} {ops : List Op} {a st : Int} {op : Op} (r : Rdy P.pure y.pure k ops a st op) :
   y.places.length = P.threads.length ∧ y.status.length = P.threads.length ∧ k < P.threads.length ∧ P.threads.length ≤ 4 ∧ (∀ a ∈ y.pure.places, 0 ≤ a ∧ a ≤ 20) := by
 have ft := r.ft
 have lt : P.pure.threads.length = P.threads.length := by simp [ProgH.pure]
 refine ⟨by rw [← lt]; exact ft.np, by rw [← lt]; exact ft.ns, by rw [← lt]; exact r.kn, by rw [← lt]; exact ft.prog.n4, fun x hx => ?_⟩
 obtain ⟨u, hu, rfl⟩ := List.getElem_of_mem hx
 have hu2 : u < P.pure.threads.length := by rw [← ft.np]; exact hu
 obtain ⟨c0, c1, _⟩ := ft.threads u _ _ _ (List.getElem?_eq_getElem hu2) (List.getElem?_eq_getElem hu) (List.getElem?_eq_getElem (by rw [ft.ns]; exact hu2))
 have := (ft.prog.ops _ (List.getElem_mem hu2)).1
 exact ⟨c0, by omega⟩
def DoR (s' : State) (v : Value) (L : List Fct) : Prop := ∃ y : StateH, v = aM y ∧ y.pure = s' ∧ L = [fN (aK y)]
end Go.Proofs.YtijmjecehppbfaaGreat
