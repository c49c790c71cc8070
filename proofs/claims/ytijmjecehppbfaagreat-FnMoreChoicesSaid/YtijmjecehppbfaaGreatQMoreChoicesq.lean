/- FnMoreChoices: texts that its proof stands on, part 17. -/
import Derived.ProofKit
import Derived.Deep.Slices
import Derived.Laws.StructEq
import Derived.Test.YtijmjecehppbfaaGreatQMoreChoicesp
namespace Go.Proofs.YtijmjecehppbfaaGreat
set_option maxRecDepth 100000
set_option maxHeartbeats 100000000
open Go Go.Sx Go.RowKit
inductive Reach (p : Prog) : Nat → State → Prop where
 | begin : Reach p 0 (start p)
 | step {n : Nat} {s : State} {t : Int} : Reach p n s → StepOk p s t → Reach p (n + 1) (doM p s t)
theorem Reach.small {p : Prog} (ok : ProgOk p) {n : Nat} {s : State} (h : Reach p n s) : s.small20 := by
 cases h with
 | begin => exact lR ok
 | step _ h => exact h.2.2.2.small
theorem ProgOk.small20 {p : Prog} (ok : ProgOk p) : p.small20 := by
 have h0 := ok.sems.1
 have h1 := ok.groups.1
 have h2 := ok.barriers.1
 have h3 := ok.rooms.1
 have h4 := ok.n4
 exact ⟨by omega, by omega, by omega, by omega, by omega, fun x hx => Nat.le_trans (ok.ops x hx).1 (by decide)⟩
theorem lS0 (g : Nat) (bi : Sl) (rb : List UInt8) (p0 : Nat) (q : ProgH) (w : World) (hg : Blk w g 140 (nW bi rb p0)) (h : AtP w g [slo bi iI 1 rb, fR (aY q)]) (hb : rb.length ≤ 2000) (hp : p0 < 100000) (ok : ProgOk q.pure) :
   Calls Tryz.prog 39 #[.pointer (some ⟨g, 0, none⟩), dW q] w (wV w g 140 2 fun v cs L => ∃ (y : ProgH) (p2 : Nat), v = dW y ∧ y.pure.small20 ∧ cs = nW bi rb p2 ∧ p2 ≤ p0 + 10 ∧ L = [fN (aY y)]) := by
 refine sR Tryz.func39 rfl aA w _ rfl _ rfl _ 140 _ 2 rfl hg _ h ⟨rfl, rfl, rfl, rfl, trivial⟩ _ (by decide) ?_
 refine aB _ cl96 rfl rfl rfl rfl ⟨rfl, rfl⟩ (fun A w hW => lR0 q w ⟨hW.get 1 rfl (.refl _), trivial⟩ ok.small20) ?_
 rintro v L ⟨y, rfl, hy, rfl⟩
 rw [← hy] at ok
 have m0 : y.sems.length ≤ 3 := ok.sems.1
 have m1 : y.groups.length ≤ 3 := ok.groups.1
 have m2 : y.barriers.length ≤ 3 := ok.barriers.1
 have m3 : y.rooms.length ≤ 3 := ok.rooms.1
 have m4 : y.pure.threads.length ≤ 4 := ok.n4
 have m4' : y.threads.length ≤ 4 := by simpa [ProgH.pure] using m4
 have m5 : ∀ t ∈ y.pure.threads, t.length ≤ 1048576 := fun t ht => Nat.le_trans (ok.ops t ht).1 (by decide)
 have e0 : y.pure.sems.length ≤ 1048576 := Nat.le_trans m0 (by decide)
 have e1 : y.pure.groups.length ≤ 1048576 := Nat.le_trans m1 (by decide)
 have e2 : y.pure.barriers.length ≤ 1048576 := Nat.le_trans m2 (by decide)
 have e3 : y.pure.rooms.length ≤ 1048576 := Nat.le_trans m3 (by decide)
 have e4 : y.pure.threads.length ≤ 1048576 := Nat.le_trans m4 (by decide)
 refine bY _ vW rfl rfl rfl rfl ⟨rfl, rfl⟩ rfl rfl (fun A w ga hga hW hblk => (lV ga bi rb _ _ w hblk ⟨z33, trivial⟩ hb (by omega))) ?_
 rintro v cs L ⟨k, rfl, _, _, rfl, rfl⟩
 refine CaseB.mk (fun g0 => ?_) (fun g0 => ?_)
 · refine jP (Shift.splitO 0 (L := vT y) (G := aY y) (G' := y.threads.flatMap pX) rfl (lC y)) ?_
   refine aF aA z102 z102 z102 200 [] [] [] trivial trivial trivial rfl ?_
   refine BothW.mk ?_ ?_
   all_goals
     refine AllSl.mk fun l => ?_
     first
     | refine BothW.mk ?_ ?_
     | skip
     all_goals
       refine sS _ rU rfl rfl rfl rfl ⟨rfl, rfl⟩ rfl rfl rfl (fun A w ga hga hW hblk => (mS ga bi rb _ _ [0, 10, 1] w hblk ⟨z33, z33, trivial⟩ hb (by omega) (by decide))) ?_
       rintro v cs L ⟨x, rfl, _, rfl, rfl⟩
       first
       | refine BothW.mk ?_ ?_
       | skip
       all_goals
         refine AllSl.mk fun l2 => ?_
         refine bR (ti := aU tab) aE 2 aA (xs := y.sems) (ys := [x]) rfl rfl rfl rfl rfl rfl rfl rfl rfl (by decide) ⟨rfl, rfl⟩ rfl z35 z43 z43 z100 (fun z => ?_)
         obtain ⟨y9, hy9⟩ : ∃ y9 : ProgH, y9 = ⟨(y.sems ++ [x]), y.groups, y.barriers, y.rooms, y.threads, z, y.h1, y.h2, y.h3, y.h4⟩ := ⟨_, rfl⟩
         have hv : dW y9 = .agg #[z.val (y.sems ++ [x]).length, y.h1.val y.groups.length, y.h2.val y.barriers.length, y.h3.val y.rooms.length, y.h4.val y.threads.length] := by
           rw [hy9]; rfl
         have hN : y9.pure.small20 := by
           rw [hy9]
           exact ⟨by show (y.sems ++ [x]).length ≤ 1048576; rw [List.length_append, List.length_singleton]; omega, e1, e2, e3, e4, m5⟩
         refine aO (Shift.pack (G := aY y9) (gO0 y9 0 3 4 5 6 z99 z99 z99 z99 z99 (by rw [hy9]; exact fun g hg => lB 7 rfl hg))) ?_
         exact mR [0] ⟨y9, _, hv.symm, hN, rfl, by omega, rfl⟩ rfl rfl z144 rfl ⟨rfl, trivial⟩ (fun _ => rfl)
 refine CaseB.mk (fun g1 => ?_) (fun g1 => ?_)
 · refine jP (Shift.splitO 0 (L := vT y) (G := aY y) (G' := y.threads.flatMap pX) rfl (lC y)) ?_
   refine aF aA z102 z102 z102 200 [] [] [] trivial trivial trivial rfl ?_
   refine BothW.mk ?_ ?_
   all_goals
     refine AllSl.mk fun l => ?_
     first
     | refine BothW.mk ?_ ?_
     | skip
     all_goals
       refine sS _ rU rfl rfl rfl rfl ⟨rfl, rfl⟩ rfl rfl rfl (fun A w ga hga hW hblk => (mS ga bi rb _ _ [11, 0, 2] w hblk ⟨z33, z33, trivial⟩ hb (by omega) (by decide))) ?_
       rintro v cs L ⟨x1, rfl, _, rfl, rfl⟩
       first
       | refine BothW.mk ?_ ?_
       | skip
       all_goals
         refine sS _ vW rfl rfl rfl rfl ⟨rfl, rfl⟩ rfl rfl rfl (fun A w ga hga hW hblk => (lV ga bi rb _ _ w hblk ⟨z33, trivial⟩ hb (by omega))) ?_
         rintro v cs L ⟨x2, rfl, _, _, rfl, rfl⟩
         first
         | refine BothW.mk ?_ ?_
         | skip
         all_goals
           refine sS _ vW rfl rfl rfl rfl ⟨rfl, rfl⟩ rfl rfl rfl (fun A w ga hga hW hblk => (lV ga bi rb _ _ w hblk ⟨z33, trivial⟩ hb (by omega))) ?_
           rintro v cs L ⟨x3, rfl, _, _, rfl, rfl⟩
           first
           | refine BothW.mk ?_ ?_
           | skip
           all_goals
             refine AllSl.mk fun l2 => ?_
             first
             | refine BothW.mk ?_ ?_
             | skip
             all_goals
               refine AllSl.mk fun l3 => ?_
               refine bR (ti := aU tab) dT 7 aA (xs := y.threads) (ys := [⟨[⟨x1, x2, x3⟩], l2⟩]) rfl rfl rfl rfl rfl rfl rfl rfl rfl (by decide) ⟨rfl, rfl⟩ rfl z35 z43 z43 z100 (fun z => ?_)
               obtain ⟨y9, hy9⟩ : ∃ y9 : ProgH, y9 = ⟨y.sems, y.groups, y.barriers, y.rooms, (y.threads ++ [⟨[⟨x1, x2, x3⟩], l2⟩]), y.h0, y.h1, y.h2, y.h3, z⟩ := ⟨_, rfl⟩
               have hv : dW y9 = .agg #[y.h0.val y.sems.length, y.h1.val y.groups.length, y.h2.val y.barriers.length, y.h3.val y.rooms.length, z.val (y.threads ++ [(⟨[⟨x1, x2, x3⟩], l2⟩ : OpSH)]).length] := by
                 rw [hy9]; rfl
               have hN : y9.pure.small20 := by
                 rw [hy9]
                 exact ⟨e0, e1, e2, e3, by show ((y.threads ++ [(⟨[⟨x1, x2, x3⟩], l2⟩ : OpSH)]).map (·.m)).length ≤ 1048576; rw [List.length_map, List.length_append, List.length_singleton]; omega, fun t ht => by
                   have ht : t ∈ (y.threads ++ [(⟨[⟨x1, x2, x3⟩], l2⟩ : OpSH)]).map (·.m) := ht
                   rw [List.map_append] at ht
                   rcases List.mem_append.1 ht with ht | ht
                   · exact m5 t ht
                   · simp at ht; subst ht; show List.length _ ≤ 1048576; simp⟩
               refine aO (Shift.pack (G := aY y9) (gO0 y9 4 5 6 7 0 z99 z99 z99 z99 z99 (by rw [hy9]; exact fun g hg => by rw [List.flatMap_append] at hg; exact (List.mem_append.1 hg).elim (fun h => lB 8 rfl h) (fun h => by simp only [List.flatMap_cons, List.flatMap_nil, pX, List.append_nil, List.mem_singleton] at h; subst h; exact mH 2 rfl rfl)))) ?_
               exact mR [0] ⟨y9, _, hv.symm, hN, rfl, by omega, rfl⟩ rfl rfl z144 rfl ⟨rfl, trivial⟩ (fun _ => rfl)
 refine CaseB.mk (fun g2 => ?_) (fun g2 => ?_)
 · refine AllSl.mk fun z => ?_
   refine aO (Shift.splitO 1 (L := vT y) (G := aY y) (G' := y.threads.flatMap pX) rfl (lC y)) ?_
   obtain ⟨y9, hy9⟩ : ∃ y9 : ProgH, y9 = ⟨y.sems, y.groups, y.barriers, y.rooms, [], y.h0, y.h1, y.h2, y.h3, z⟩ := ⟨_, rfl⟩
   have hv : dW y9 = .agg #[y.h0.val y.sems.length, y.h1.val y.groups.length, y.h2.val y.barriers.length, y.h3.val y.rooms.length, z.val 0] := by
     rw [hy9]; rfl
   have hN : y9.pure.small20 := by
     rw [hy9]
     exact ⟨e0, e1, e2, e3, by simp [ProgH.pure], fun t ht => by simp [ProgH.pure] at ht⟩
   refine aO (Shift.pack (G := aY y9) (gO0 y9 0 1 2 3 6 z99 z99 z99 z99 z99 (by rw [hy9]; exact fun g hg => by cases hg))) ?_
   exact mR [0] ⟨y9, _, hv.symm, hN, rfl, by omega, rfl⟩ rfl rfl z144 rfl ⟨rfl, trivial⟩ (fun _ => rfl)
 refine CaseB.mk (fun g3 => ?_) (fun g3 => ?_)
 · refine jP (Shift.splitO 0 (L := vT y) (G := aY y) (G' := y.threads.flatMap pX) rfl (lC y)) ?_
   refine aF aA z102 z102 z102 200 [] [] [] trivial trivial trivial rfl ?_
   refine BothW.mk ?_ ?_
   all_goals
     refine AllSl.mk fun l => ?_
     first
     | refine BothW.mk ?_ ?_
     | skip
     all_goals
       refine sS _ rU rfl rfl rfl rfl ⟨rfl, rfl⟩ rfl rfl rfl (fun A w ga hga hW hblk => (mS ga bi rb _ _ [5, -1] w hblk ⟨z33, z33, trivial⟩ hb (by omega) (by decide))) ?_
       rintro v cs L ⟨x, rfl, _, rfl, rfl⟩
       first
       | refine BothW.mk ?_ ?_
       | skip
       all_goals
         refine AllSl.mk fun l2 => ?_
         refine bR (ti := aU tab) aE 5 aA (xs := y.rooms) (ys := [x]) rfl rfl rfl rfl rfl rfl rfl rfl rfl (by decide) ⟨rfl, rfl⟩ rfl z35 z43 z43 z100 (fun z => ?_)
         obtain ⟨y9, hy9⟩ : ∃ y9 : ProgH, y9 = ⟨y.sems, y.groups, y.barriers, (y.rooms ++ [x]), y.threads, y.h0, y.h1, y.h2, z, y.h4⟩ := ⟨_, rfl⟩
         have hv : dW y9 = .agg #[y.h0.val y.sems.length, y.h1.val y.groups.length, y.h2.val y.barriers.length, z.val (y.rooms ++ [x]).length, y.h4.val y.threads.length] := by
           rw [hy9]; rfl
         have hN : y9.pure.small20 := by
           rw [hy9]
           exact ⟨e0, e1, e2, by show (y.rooms ++ [x]).length ≤ 1048576; rw [List.length_append, List.length_singleton]; omega, e4, m5⟩
         refine aO (Shift.pack (G := aY y9) (gO0 y9 3 4 5 0 6 z99 z99 z99 z99 z99 (by rw [hy9]; exact fun g hg => lB 7 rfl hg))) ?_
         exact mR [0] ⟨y9, _, hv.symm, hN, rfl, by omega, rfl⟩ rfl rfl z144 rfl ⟨rfl, trivial⟩ (fun _ => rfl)
 refine aO (Shift.packK (G := aY y) 0 rfl) ?_
 exact mR [0] ⟨y, _, rfl, ⟨e0, e1, e2, e3, e4, m5⟩, rfl, by omega, rfl⟩ rfl rfl z144 rfl ⟨rfl, trivial⟩ (fun _ => rfl)
theorem eY0 (g : Nat) (bi : Sl) (rb : List UInt8) (p0 : Nat) (w : World) (hg : Blk w g 140 (nW bi rb p0)) (h : AtP w g [slo bi iI 1 rb]) (hb : rb.length ≤ 2000) (hp : p0 < 100000) :
   Calls Tryz.prog 41 #[.pointer (some ⟨g, 0, none⟩)] w (wV w g 140 2 fun v cs L => ∃ (z : Sl) (tc : List Int) (p2 : Nat), v = z.val tc.length ∧ tc.length ≤ 20 ∧ cs = nW bi rb p2 ∧ p2 ≤ p0 + 20 ∧ L = [own z 3 aJ 1 tc]) := by
 refine aK0 Tryz.func41 rfl aA w _ rfl _ rfl _ 140 _ 2 rfl hg _ h ⟨rfl, rfl, trivial⟩ (by decide) ?_
 refine AllSl.mk fun z0 => ?_
 refine AllSl.mk fun l1 => ?_
 refine bY _ rU rfl rfl rfl rfl ⟨rfl, rfl⟩ rfl rfl (fun A w ga hga hW hblk => (mS ga bi rb _ _ [6, 4, 10, 2, 0, 15] w hblk ⟨z33, z33, trivial⟩ hb (by omega) (by decide))) ?_
 rintro v cs L ⟨x0, rfl, hx0, rfl, rfl⟩
 have hx4 : 0 ≤ x0 ∧ x0 ≤ 15 := by simp at hx0; omega
 clear hx0
 refine LoopW.mk ⟨{ u : Int × Sl × List Int × Nat // (0 ≤ u.1 ∧ u.1 + u.2.2.1.length ≤ 15) ∧ u.2.2.2 + u.1 ≤ (p0 : Int) + 16 },
   fun u => .mk [(0, .p 0 0), (3, .v (u.1.2.1.val u.1.2.2.1.length)), (4, .v (.int .i64 u.1.1))] 1 0 [(0, 140, 2)] [((0, 0), .v (bi.val rb.length)), ((0, 1), .v (.int .i64 (u.1.2.2.2 : Int)))] [own u.1.2.1 3 aJ 1 u.1.2.2.1, slo bi iI 1 rb],
   fun u => u.1.1.toNat, ⟨(x0, z0, [], p0 + 1), by simp only [List.length_nil]; omega, by simp only; omega⟩, ?_, ?_⟩
 · exact aC [1, 2] zw2 zw0 zw2 zw5 zw4 rfl rfl
 rintro ⟨⟨i, z, tc, p1⟩, i1, i2⟩
 simp only at i1 i2 ⊢
 refine CaseB.mk (fun gi => ?_) (fun gi => ?_)
 · have hi : 0 < i := by have := of_decide_eq_true gi; omega
   have hwi : IntKind.i64.wrap (i - 1) = i - 1 := by rw [cY] <;> omega
   refine bY _ vW rfl rfl rfl rfl ⟨rfl, rfl⟩ rfl rfl (fun A w ga hga hW hblk => (lV ga bi rb _ _ w hblk ⟨z33, trivial⟩ hb (by omega))) ?_
   rintro v cs L ⟨t, rfl, _, _, rfl, rfl⟩
   refine AllSl.mk fun l2 => ?_
   refine bQ aE 1 aA (xs := tc) (ys := [(t : Int)]) rfl rfl rfl rfl rfl rfl rfl rfl rfl (by decide) ⟨rfl, rfl⟩ rfl z35 z43 z43 (fun z2 => ?_)
   refine ⟨⟨(i - 1, z2, tc ++ [(t : Int)], p1 + 1), by simp only [List.length_append, List.length_singleton]; omega, by simp only; omega⟩, ?_, by simp only; omega⟩
   exact aC [0, 2] zw13 zw0 zw13 zw5 zw28 rfl rfl
 have hi : i = 0 := by have := of_decide_eq_false gi; omega
 refine bY _ vW rfl rfl rfl rfl ⟨rfl, rfl⟩ rfl rfl (fun A w ga hga hW hblk => (lV ga bi rb _ _ w hblk ⟨z33, trivial⟩ hb (by omega))) ?_
 rintro v cs L ⟨k, rfl, _, _, rfl, rfl⟩
 refine CaseB.mk (fun gk => ?_) (fun gk => ?_)
 · refine AllSl.mk fun l2 => ?_
   refine bQ aE 1 aA (xs := tc) (ys := [-1]) rfl rfl rfl rfl rfl rfl rfl rfl rfl (by decide) ⟨rfl, rfl⟩ rfl z35 z43 z43 (fun z2 => ?_)
   exact mR [0] ⟨z2, tc ++ [-1], _, rfl, by rw [List.length_append, List.length_singleton]; omega, rfl, by omega, rfl⟩ rfl rfl z144 rfl ⟨rfl, trivial⟩ (fun _ => rfl)
 exact mR [0] ⟨z, tc, _, rfl, by omega, rfl, by omega, rfl⟩ rfl rfl z144 rfl ⟨rfl, trivial⟩ (fun _ => rfl)
def ListR (m : Nat) (v : Value) (L : List Fct) : Prop := ∃ (q : ProgH) (z : Sl) (tc : List Int), v = .tuple #[dW q, z.val tc.length] ∧ q.pure.small20 ∧ tc.length ≤ m ∧ L = [fN (aY q), own z 3 aJ 1 tc]
theorem yG (i : Sl) (xs : List UInt8) (w : World) (h : At w [slo i iI 1 xs]) (hb : xs.length ≤ 4294967296) :
   Calls Tryz.prog 9 #[i.val xs.length] w (Ret w (ListR 20)) := by
 have ht : (xs.take 2000).length ≤ 2000 := by simp; omega
 refine bZ Tryz.func9 rfl aA w _ rfl _ rfl _ h ⟨rfl, rfl, trivial⟩ _ (by decide) ?_
 refine dY0 _ 140 2 cl38 rfl rfl rfl rfl ⟨rfl, rfl⟩ (fun A w hW => (oO0 i xs w ⟨z34, trivial⟩ hb)) ?_
 rintro cs L ⟨rfl, rfl⟩
 refine bY _ cl40 rfl rfl rfl rfl ⟨rfl, rfl⟩ rfl rfl (fun A w ga hga hW hblk => (mZ0 ga (sU i xs) (xs.take 2000) _ w hblk ⟨z36, trivial⟩ ht (by omega))) ?_
 rintro v cs L ⟨q, p1, rfl, ok, rfl, hp1, rfl⟩
 refine bY _ cl39 rfl rfl rfl rfl ⟨rfl, rfl⟩ rfl rfl (fun A w ga hga hW hblk => (lS0 ga (sU i xs) (xs.take 2000) _ q w hblk ⟨z36, hW.getP _ hga rfl 0 rfl (.O_R fun _ h => h), trivial⟩ ht (by omega) ok)) ?_
 rintro v cs L ⟨y, p2, rfl, hy, rfl, hp2, rfl⟩
 refine bY _ cl41 rfl rfl rfl rfl ⟨rfl, rfl⟩ rfl rfl (fun A w ga hga hW hblk => (eY0 ga (sU i xs) (xs.take 2000) _ w hblk ⟨z36, trivial⟩ ht (by omega))) ?_
 rintro v cs L ⟨z, tc, p3, rfl, hl, rfl, _, rfl⟩
 exact bG [1, 0] ⟨y, z, tc, rfl, hy, hl, rfl⟩ z137 rfl ⟨rfl, rfl, trivial⟩ (fun _ => rfl)
theorem uV (i : Sl) (xs : List UInt8) (w : World) (h : At w [slo i iI 1 xs]) :
   Calls Tryz.prog 3 #[i.val xs.length] w (Ret w fun v L => v = .bool true ∧ L = []) := by
 refine bZ Tryz.func3 rfl aA w _ rfl _ rfl _ h ⟨rfl, rfl, trivial⟩ _ (by decide) ?_
 refine CaseB.mk (fun h0 => ?_) (fun h0 => ?_)
 · exact aH ⟨rfl, rfl⟩ (fun _ => rfl)
 have hb : xs.length ≤ 4294967296 := by simp at h0; omega
 refine aB _ cl9 rfl rfl rfl rfl ⟨rfl, rfl⟩ (fun A w hW => (yG i xs w ⟨z34, trivial⟩ hb)) ?_
 rintro v L ⟨p, z, tc, rfl, hp, htl, rfl⟩
 refine aB _ cl10 rfl rfl rfl rfl ⟨rfl, rfl⟩ (fun A w hW => tP p z tc w ⟨hW.get 0 rfl (vN _), hW.get 1 rfl .own, trivial⟩ hp) ?_
 rintro v L ⟨x, z1, t1, b, rfl, i1, i2, i3, rfl⟩
 refine aB _ cl11 rfl rfl rfl rfl ⟨rfl, rfl⟩ (fun A w hW => yE p z tc w ⟨hW.get 2 rfl (vN _), hW.get 3 rfl .own, trivial⟩ hp) ?_
 rintro v L ⟨y, z2, t2, c, rfl, j1, j2, j3, rfl⟩
 obtain ⟨hyx, rfl, rfl, hxs, hl1⟩ := mW0 i1 i2 i3 j1 j2 j3
 have hys : y.pure.small20 := by rw [hyx]; exact hxs
 refine aB _ cl12 rfl rfl rfl rfl ⟨rfl, rfl⟩ (fun A w hW => gK0 x y z1 z2 t2 t2 w ⟨hW.get 2 rfl (.O_R fun _ h => h), hW.get 3 rfl .own, hW.get 0 rfl (vN _), hW.get 1 rfl .own, trivial⟩ hxs hys (by omega) (by omega)) ?_
 rintro v L ⟨rfl, rfl⟩
 refine CaseB.mk (fun g => by simp [hyx] at g) (fun _ => ?_)
 refine CaseB.mk (fun g => by simp at g) (fun _ => ?_)
 apply CaseB.mk <;> intro g
 · refine aB _ cl12 rfl rfl rfl rfl ⟨rfl, rfl⟩ (fun A w hW => gK0 x y z1 z2 t2 t2 w ⟨hW.get 2 rfl (.O_R fun _ h => h), hW.get 3 rfl .own, hW.get 0 rfl (vN _), hW.get 1 rfl .own, trivial⟩ hxs hys (by omega) (by omega)) ?_
   rintro v L ⟨rfl, rfl⟩
   refine CaseB.mk (fun _ => ?_) (fun g => by simp [hyx] at g)
   refine aH ⟨?_, rfl⟩ (fun _ => rfl)
   simp
 have hc : c = true := by simpa using g
 subst hc
 have hsome := i2 rfl
 obtain ⟨s', tr', k1, k2, k3, k4⟩ := zN hsome (tc.length / 2)
 obtain ⟨n, hn⟩ : ∃ n, n = tc.length / 2 := ⟨_, rfl⟩
 rw [← hn] at k1
 have hq : ((n : Nat) : Int) = IntKind.i64.wrap ((tc.length : Int).tdiv 2) := by
   rw [Int.tdiv_eq_ediv_of_nonneg (by omega), cY] <;> omega
 refine aF aA z102 z102 z102 200 [((0, 0), .v (p.h0.val p.sems.length)), ((0, 1), .v (p.h1.val p.groups.length)), ((0, 2), .v (p.h2.val p.barriers.length)), ((0, 3), .v (p.h3.val p.rooms.length)), ((0, 4), .v (p.h4.val p.threads.length))] [5] [_] z117 z133 ⟨rfl, trivial⟩ rfl ?_
 first
 | refine BothW.mk ?_ ?_
 | skip
 all_goals
   refine kT rfl rfl rfl ⟨rfl, rfl⟩ (.int .i64 (n : Int)) (fun w => dM w) (fun w => wB (by decide) hq w) ?_
   first
   | refine BothW.mk ?_ ?_
   | skip
   all_goals
     refine jL0 (ti := aU tab) aA rfl rfl rfl rfl ⟨rfl, rfl⟩ rfl rfl (aL 0 rfl (Rd.own (o := false) (o' := false))) (0) (n) ((tc.take n)).length rfl rfl z43 z43 z43 ?_
     first
     | refine BothW.mk ?_ ?_
     | skip
     all_goals
       refine bN _ cl10 rfl rfl rfl rfl ⟨rfl, rfl⟩ (fun A w hW => tP p (z.cut 0 1) (tc.take n) w ⟨hW.get 4 rfl (vN _), cB0 aE 0 n (by omega) (by omega) (by simp) (hW.get 5 rfl .own), trivial⟩ hp) ?_
       rintro v L ⟨x3, z3, t3, b3, rfl, m1, m2, m3, rfl⟩
       have hb3 : b3 = true := m1.2 (by rw [k1]; rfl)
       subst hb3
       have ht3 : tr' = t3 := by
         have := m2 rfl
         rw [k1] at this
         exact congrArg Prod.snd (Option.some.inj this)
       subst ht3
       first
       | refine BothW.mk ?_ ?_
       | skip
       all_goals
         have k2' : tr'.length ≤ t2.length := k2
         have k5 : (t2.take tr'.length).length = tr'.length := by rw [List.length_take]; omega
         refine aF aA z102 z102 z102 200 [((1, 9), .v (z1.val t2.length)), ((3, 9), .v (z3.val tr'.length))] [5] [_] z135 z145 ⟨rfl, trivial⟩ rfl ?_
         refine CaseB.mk (fun _ => ?_) (fun g => by cases g)
         refine CaseB.mk (fun _ => ?_) (fun g => by have := of_decide_eq_false g; simp only at k2; omega)
         refine jL0 (ti := aU tab) aA rfl rfl rfl rfl ⟨rfl, rfl⟩ rfl rfl (aL 0 rfl (Rd.own (o := false) (o' := false))) (0) (tr'.length) ((t2.take tr'.length)).length rfl rfl z43 z43 z43 ?_
         refine bN _ cl13 rfl rfl rfl rfl ⟨rfl, rfl⟩ (fun A w hW => cD0 (z1.cut 0 1) z3 (t2.take tr'.length) tr' w ⟨cB0 aE 0 tr'.length (by omega) (by simp only at k2; omega) (by simp) (hW.get 5 rfl .own), hW.get 1 rfl .own, trivial⟩ (by simp only at k3; rw [k3]; simp only at k2; omega) (by simp only at k2; omega)) ?_
         rintro v L ⟨rfl, rfl⟩
         refine aH ⟨?_, rfl⟩ (fun _ => rfl)
         simp only at k3
         simp [k3]
end Go.Proofs.YtijmjecehppbfaaGreat
namespace Go.Sx
set_option maxRecDepth 100000
set_option maxHeartbeats 100000000
open Go Go.RowKit Go.ChangeShapes Go.WideShapes
theorem rP {H : Type} {enc : TypeId × Value → H} {P : Program} (hl : laidOutB P = true) {W W' : World} (hb : Below W.heap.size W W') (sp : Nat → Bool) : ∀ {ts : List TypeId} {vs : List Value} {ds : List (DataW H)} {ps : List MemPlace}, (∀ t ∈ ts, P.readableRec t = true ∧ t < P.types.size) →
   DataW.TrodAll enc P W 0 (fun _ => true) true ts vs ds ps → (∀ x ∈ ps, x.block < W.heap.size) → (∀ x ∈ ps, sp x.block = true) → DataW.TrodAll enc P W' 0 sp true ts vs ds ps
 | [], [], [], ps, _, h, _, _ => h
 | t :: ts, v :: vs, d :: ds, ps, hr, h, hlt, hsp => by
   obtain ⟨p, q, h1, h2, rfl⟩ := h
   have ht := hr t (by simp)
   exact ⟨p, q, WideElems.Trod_stays hl ht.1 ht.2 h1 (fun x hx => hb.same (hlt x (by simp [hx]))) (fun x hx => hsp x (by simp [hx])),
     rP hl hb sp (fun t ht => hr t (by simp [ht])) h2 (fun x hx => hlt x (by simp [hx])) (fun x hx => hsp x (by simp [hx])), rfl⟩
 | [], _ :: _, _, _, _, h, _, _ => h.elim
 | _ :: _, [], _, _, _, h, _, _ => h.elim
 | [], [], _ :: _, _, _, h, _, _ => h.elim
 | _ :: _, _ :: _, [], _, _, h, _, _ => h.elim
theorem lT0 {H : Type} {enc : TypeId × Value → H} {P : Program} {f : Func} {s : ChangeSpec} {apart fresh handsOn again : Bool} {W W' : World} {args : Array Value} {ds gs : List (DataW H)} {before : List MemPlace} {tb : TypeId} {pl : List TypeId}
   (hl : laidOutB P = true) (hpl : f.params.toList = pl) (hp : pl.all (fun t => P.readableRec t && decide (t < P.types.size)) = true) (hvars : s.vars = []) (hres : f.resultTypes = #[tb]) (htb : P.underlying tb = some .bool)
   (hspec : s.fn H (ds ++ gs) = { results := [.lit (.bool true)], args := ds })
   (hW : DataW.Whole enc P f.params.toList s.vars apart W args.toList ds gs before) (hb : Below W.heap.size W W') :
   s.post enc P f apart fresh handsOn again W args (.bool true) W' := by
 have hold : ∀ p ∈ before, p.block < W.heap.size := fun p hp => by simpa using hW.lt p hp
 have hW0 := hW
 obtain ⟨pa, pv, hA, hV, hbef, hfz, hnd⟩ := hW
 have hbef' := hbef.symm; clear hbef
 rw [hvars] at hV
 obtain ⟨rfl, rfl⟩ := trodVars_none hV
 rw [List.append_nil] at hbef'
 subst hbef'
 rw [List.append_nil] at hspec
 have hp' : ∀ t ∈ f.params.toList, P.readableRec t = true ∧ t < P.types.size := fun t ht => by
   rw [hpl] at ht
   have := List.all_eq_true.1 hp t ht
   simpa using this
 have hB : ∀ (b : Nat) (sp : Nat → Bool) (hd : Bool), DataW.Trod enc P W' b sp hd tb (.bool true) (.lit (.bool true)) [] := fun b sp hd => ⟨1, by simp [DataW.trod, Value.cells, htb]⟩
 have hrl : (Value.bool true).resultList f.resultTypes.size = [.bool true] := by rw [hres]; rfl
 have hR : ∀ (b : Nat) (sp : Nat → Bool) (hd : Bool), DataW.TrodAll enc P W' b sp hd f.resultTypes.toList ((Value.bool true).resultList f.resultTypes.size) [.lit (.bool true)] [] := fun b sp hd => by
   rw [hrl, hres]; exact trodAll_mk1 (hB b sp hd)
 have hAr := fun sp h => rP hl hb sp hp' hA hold h
 have hvv : ∀ sp, DataW.TrodVars enc P W' sp s.vars ([] : List (DataW H)) [] := fun sp => by rw [hvars]; rfl
 refine ⟨ds, [], pa, [], pa, [], hW0, ?_, ?_, ?_, ?_, fun _ => ⟨?_, [.lit (.bool true)] ++ ds, [], [] ++ pa, ⟨[] ++ pa, [], trodAll_append (hAr _ (fun _ _ => rfl)) (hR _ _ _), hvv _, by simp, ?_, ?_⟩, fun p hp _ => by simpa using hp⟩⟩
 · simp only [List.append_nil, hspec]; exact hR _ _ _
 · simp only [List.append_nil, hspec]; exact hAr _ (fun p hp => by simpa using hold p hp)
 · simp only [List.append_nil, hspec]; exact hvv _
 · exact World.keptBut_mono (fun p hp => hp.elim) (hb.frame (fun _ => False))
 · intro j t r hj hv
   rw [hrl] at hv
   rw [hres] at hj
   cases j with
   | succ j => simp at hv
   | zero =>
     simp at hj hv
     subst hj; subst hv
     simp [Value.okWide, htb, Cell.okWide, Cell.ok]
 · intro b off hp
   rw [hb.frozen (hold _ (by simpa using hp))]
   exact hfz b off (by simpa using hp)
 · intro h
   simpa using hnd h
section
variable {H : Type} {enc : TypeId × Value → H} {P : Program} {W : World}
theorem iO0 {α : Type} {el : α → List Value} {sz : Nat} (he : Enc el sz) (h0 : 0 < sz) {xs : List α} {j : Nat} {u : Value} (h : (cells el xs)[j]? = some u) : ∃ (k r : Nat) (hk : k < xs.length), j = k * sz + r ∧ (el xs[k])[r]? = some u := by
 have hlt : j < xs.length * sz := by rw [← mB he]; exact (List.getElem?_eq_some_iff.1 h).1
 have hk : j / sz < xs.length := Nat.div_lt_of_lt_mul (by rwa [Nat.mul_comm] at hlt)
 have hr : j % sz < sz := Nat.mod_lt _ h0
 have hj : j = j / sz * sz + j % sz := (Nat.div_add_mod' j sz).symm
 refine ⟨j / sz, j % sz, hk, hj, ?_⟩
 have hr' : j % sz < (el xs[j / sz]).length := by rw [he.len]; exact hr
 have := pR he hk (List.getElem?_eq_getElem hr')
 rw [← hj, h] at this
 rw [List.getElem?_eq_getElem hr', ← this]
theorem nB0 {α : Type} {el : α → List Value} {sz : Nat} (he : Enc el sz) (h0 : 0 < sz) {t e : TypeId} {fuel : Nat} {cs : List Value} {x : DataW H × List MemPlace} (ht : P.underlying t = some (.slice e)) (hc : P.cellsOf e = sz)
   (hel : ∀ n cs y, DataW.trod enc P W 0 (fun _ => true) true n e cs = some y → ∃ a : α, cs = el a)
   (h : DataW.trod enc P W 0 (fun _ => true) true fuel t cs = some x) :
   ∃ (i : Sl) (xs : List α), cs = [i.val xs.length] ∧ RdS W i sz (cells el xs) xs.length ∧ ∀ b, (fSl true i sz (cells el xs) xs.length).foot b → b < W.heap.size := by
 rcases Deep.open_slice ht h with ⟨rfl, rfl⟩ | ⟨a, len, cap, m, n, D, Pl, rfl, hb, hl, hm, hmm, rfl, hx⟩
 · exact ⟨⟨none, 0⟩, [], rfl, ⟨by simp [cells], by simp, by simp [maxLen], fun h => by simp at h⟩, fun b hb => by have := hb.1; simp at this⟩
 · rw [hc] at hx
   have hlm : len ≤ m := by rw [hmm]; simp; omega
   have hone : ∀ i, i < len → ∃ y : α, ∀ r u, (el y)[r]? = some u → W.cell? (a.add (i * sz + r)) = some u := fun i hi => by
     obtain ⟨cs', h1, h2⟩ := hx i (by omega)
     obtain ⟨y, rfl⟩ := hel _ _ _ h2
     obtain ⟨_, g1, g2⟩ := World.cells?_some h1
     refine ⟨y, fun r u hu => ?_⟩
     have hr : r < sz := by rw [← g1]; exact (List.getElem?_eq_some_iff.1 hu).1
     have := g2 r hr
     rw [iQ, hu] at this
     exact this
   rcases Nat.eq_zero_or_pos len with hz | hz
   · subst hz
     exact ⟨⟨some a, cap⟩, [], rfl, ⟨by simp [cells], by simp, hm, fun h => by simp at h⟩, fun b hb => by have := hb.1; simp at this⟩
   · have : Inhabited α := ⟨(hone 0 hz).choose⟩
     obtain ⟨X, hX⟩ := Deep.choose_lt hone
     have hlen : ((List.range len).map X).length = len := by simp
     refine ⟨⟨some a, cap⟩, (List.range len).map X, by rw [hlen]; rfl, ⟨by rw [mB he], by rw [hlen]; exact hl, hm, fun _ => ⟨a, rfl, fun j u hu => ?_⟩⟩, ?_⟩
     · obtain ⟨k, r, hk, rfl, hu'⟩ := iO0 he h0 hu
       have hk' : k < len := by simpa using hk
       exact hX k hk' r u (by simpa using hu')
     · rintro b ⟨_, ad, had, rfl⟩
       injection had with had
       subst had
       have hr : 0 < (el (X 0)).length := by rw [he.len]; exact h0
       have hc0 := hX 0 hz 0 _ (List.getElem?_eq_getElem hr)
       unfold World.cell? at hc0
       rw [uC] at hc0
       cases hh : W.heap[a.block]? with
       | none => rw [hh] at hc0; simp at hc0
       | some o => exact (Array.getElem?_eq_some_iff.1 hh).1
theorem iP0 {base : Nat} {t e : TypeId} {r : Reach} {v : Value} {i : Sl} {n : Nat} (ht : P.underlying t = some (.slice e)) (hv : Value.okWide P W r base t v) (h : v.cells.toList = [i.val n]) : v = i.val n := by
 obtain ⟨a, len, cap, rfl⟩ := okWide_slice ht hv
 simpa [Value.cells] using h
end
end Go.Sx
namespace Go.Proofs.YtijmjecehppbfaaGreat
set_option maxRecDepth 100000
set_option maxHeartbeats 100000000
open Go Go.Sx Go.RowKit Go.ChangeShapes Go.WideShapes
theorem nC0 : ownKnob Tryz.prog.godebug = none := by kernel_rfl
theorem nD0 : laidOutB Tryz.prog = true := by kernel_rfl
theorem undB : Tryz.prog.underlying 22 = some (.slice 5) := by kernel_rfl
theorem und8 : Tryz.prog.underlying 5 = some (.int .u8) := by kernel_rfl
theorem nE0 : Tryz.prog.underlying 4 = some .bool := by kernel_rfl
theorem eZ0 {H : Type} {enc : TypeId × Value → H} {W : World} {base : Nat} {v : Value} {d : DataW H} {p : List MemPlace} (hv : Value.okWide Tryz.prog W .any base 22 v)
   (h : DataW.Trod enc Tryz.prog W 0 (fun _ => true) true 22 v d p) : ∃ (i : Sl) (xs : List UInt8), v = i.val xs.length ∧ At W [slo i iI 1 xs] := by
 obtain ⟨fuel, hf⟩ := h
 obtain ⟨i, xs, h1, h2, h3⟩ := nB0 (el := iI) sT Nat.zero_lt_one undB z102 (fun n cs y hy => by
   obtain ⟨k, h1, _, h2⟩ := DataW.trod_int und8 hy
   subst h1
   simp only [Lit.wf, Bool.and_eq_true, decide_eq_true_eq] at h2
   obtain ⟨h2, h3⟩ := h2
   have e1 : IntKind.u8.min = 0 := rfl
   have e2 : IntKind.u8.max = 255 := rfl
   rw [e1] at h2
   rw [e2] at h3
   refine ⟨UInt8.ofNat k.toNat, ?_⟩
   have : (UInt8.ofNat k.toNat).toNat = k.toNat := by rw [UInt8.toNat_ofNat']; omega
   simp only [iI, this, List.cons.injEq, Value.int.injEq, true_and, and_true]
   omega) hf
 exact ⟨i, xs, iP0 undB hv h1, ⟨h2, h3⟩, trivial⟩
theorem bM0 {f : FuncId} {fn : Func} {s : ChangeSpec} {conds : List PathCond} (hf : Tryz.checked.prog.funcs[f]? = some fn) (hfn : Tryz.checked.prog.inits.idxOf? f = none) (hpl : fn.params = #[22]) (hres : fn.resultTypes = #[4]) (hvars : s.vars = [])
   (hspec : ∀ (H : Type) (d : DataW H), s.fn H [d] = { results := [.lit (.bool true)], args := [d] })
   (hc : ∀ (i : Sl) (xs : List UInt8) (w : World), At w [slo i iI 1 xs] → Calls Tryz.prog f #[i.val xs.length] w (Ret w fun v L => v = .bool true ∧ L = []))
   (os : Os) (started : os.Started) (H : Type) (enc : TypeId × Value → H)
   (wit : ∃ (w : World) (tape : Tape) (i : Input), w.os = os ∧ (w.forCall tape i).Shaped Tryz.checked.prog ∧ i.vars = [] ∧ Input.okWide Tryz.checked.prog (w.forCall tape i) .any w.heap.size f i ∧
     s.pre6 enc Tryz.checked.prog fn conds false (w.forCall tape i).memory i.args ∧ ({} : Assume).holds Tryz.checked.prog (lone (Frame.enter Tryz.checked.prog f i.args .normal) [] (w.forCall tape i))) :
   ReturnsInHanded {} Tryz.checked os f .any (s.pre6 enc Tryz.checked.prog fn conds false) (s.post enc Tryz.checked.prog fn false true false false) := by
 refine returnsInHanded_of_change (C := Tryz.checked) nC0 started hfn hf wit ?_
 intro W base args ds gs before hval hW _ _
 have hW' := hW
 obtain ⟨p, q, hA0, hV, _, _, _⟩ := hW
 rw [hpl] at hA0
 have hA : DataW.TrodAll enc Tryz.prog W 0 (fun _ => true) true [22] args.toList ds p := hA0
 obtain ⟨v0, d0, rfl, rfl, h0⟩ := trodAll_one hA
 obtain ⟨i, xs, rfl, hat⟩ := eZ0 (hval 0 22 v0 (by rw [hpl]; rfl) rfl) h0
 refine (hc i xs W hat).mono fun e W' hR => ?_
 obtain ⟨v, L, rfl, he, _, rfl, _⟩ := hR
 rw [hvars] at hV
 obtain ⟨rfl, _⟩ := trodVars_none hV
 exact ⟨_, rfl, lT0 (P := Tryz.prog) nD0 (pl := [22]) (by rw [hpl]) z102 hvars hres nE0 (hspec H d0) hW' he.below⟩
end Go.Proofs.YtijmjecehppbfaaGreat
