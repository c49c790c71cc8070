/- FnMoreChoices: texts that its proof stands on, part 15. -/
import Derived.Test.YtijmjecehppbfaaGreatQMoreChoicesn
namespace Go.Proofs.YtijmjecehppbfaaGreat
set_option maxRecDepth 100000
set_option maxHeartbeats 100000000
open Go Go.Sx Go.RowKit
theorem of_c (g : Nat) (bi : Sl) (rb : List UInt8) (p : Nat) (i : Sl) (xs : List Str) (w : World) (hg : Blk w g 140 (nW bi rb p)) (h : AtP w g [slo bi iI 1 rb, slo i xR 1 xs]) (hb : rb.length ≤ 2000) (hp : p < 1000000000) (h0 : 0 < xs.length) :
   Calls Tryz.prog 100 #[.pointer (some ⟨g, 0, none⟩), i.val xs.length] w (wV w g 140 2 fun v cs L => ∃ x : Str, v = .string (bs x) ∧ x ∈ xs ∧ cs = nW bi rb (p + 1) ∧ L = []) := by
 refine sR Tryz.func100 rfl aA w _ rfl _ rfl _ 140 _ 2 rfl hg _ h ⟨rfl, rfl, rfl, rfl, trivial⟩ _ (by decide) ?_
 refine bY _ vW rfl rfl rfl rfl ⟨rfl, rfl⟩ rfl rfl (fun A w ga hga hW hblk => (lV ga bi rb p xs.length w hblk ⟨z33, trivial⟩ hb hp)) ?_
 rintro v cs L ⟨k, rfl, hk, _, rfl, rfl⟩
 have hlt : k < xs.length := by have := hk (by omega); omega
 refine aG kR aA rfl rfl rfl rfl rfl ⟨rfl, rfl⟩ z35 k rfl z43 (fun ad => ?_)
 exact mR [] ⟨_, rfl, List.getElem_mem hlt, rfl, rfl⟩ rfl rfl trivial rfl trivial (fun _ => rfl)
theorem iK0 (w : World) : Calls Tryz.prog 101 #[] w (Ret w fun v L => ∃ y : Sl, v = y.val samplesL.length ∧ L = [own y 9 xR 1 samplesL]) := by
 refine oI0 Tryz.func101 rfl aA w _ rfl _ rfl [] trivial trivial  ?_
 refine AllSl.mk fun y => ?_
 exact bG [0] ⟨y, rfl, rfl⟩ z144 rfl ⟨rfl, trivial⟩ (fun _ => rfl)
theorem op6_c (g : Nat) (bi : Sl) (rb : List UInt8) (p : Nat) (q : ProgH) (w : World) (hg : Blk w g 140 (nW bi rb p)) (h : AtP w g [slo bi iI 1 rb, fR (aY q)]) (hb : rb.length ≤ 2000) (hp : p < 1000000) :
   Calls Tryz.prog 102 #[.pointer (some ⟨g, 0, none⟩), dW q] w (wV w g 140 2 fun v cs L => ∃ (o : Op) (p2 : Nat), v = .agg (cOp o).toArray ∧ OpOk q.pure o ∧ cs = nW bi rb p2 ∧ p2 ≤ p + 4 ∧ L = []) := by
 refine sR Tryz.func102 rfl aA w _ rfl _ rfl _ 140 _ 2 rfl hg _ h ⟨rfl, rfl, rfl, rfl, trivial⟩ _ (by decide) ?_
 refine AllSl.mk fun l1 => ?_
 refine bY _ rU rfl rfl rfl rfl ⟨rfl, rfl⟩ rfl rfl (fun A w ga hga hW hblk => (mS ga bi rb _ _ [1, 2, 3, 4, 5, 6, 7, 8, 9, 10, 1, 2, 3] w hblk ⟨z33, z33, trivial⟩ hb (by omega) (by decide))) ?_
 rintro v cs L ⟨k, rfl, _, rfl, rfl⟩
 refine bY _ vW rfl rfl rfl rfl ⟨rfl, rfl⟩ rfl rfl (fun A w ga hga hW hblk => (lV ga bi rb _ _ w hblk ⟨z33, trivial⟩ hb (by omega))) ?_
 rintro v cs L ⟨on, rfl, _, _, rfl, rfl⟩
 refine CaseB.mk (fun e2 => ?_) (fun e2 => ?_)
 refine CaseB.mk (fun _ => ?_) (fun h => by rw [e2] at h; cases h)
 refine AllSl.mk fun l2 => ?_
 refine bY _ rU rfl rfl rfl rfl ⟨rfl, rfl⟩ rfl rfl (fun A w ga hga hW hblk => (mS ga bi rb _ _ [1, 1, 2] w hblk ⟨z33, z33, trivial⟩ hb (by omega) (by decide))) ?_
 rintro v cs L ⟨a, rfl, _, rfl, rfl⟩
 rotate_left
 refine CaseB.mk (fun e3 => ?_) (fun e3 => ?_)
 refine AllSl.mk fun l2 => ?_
 refine bY _ rU rfl rfl rfl rfl ⟨rfl, rfl⟩ rfl rfl (fun A w ga hga hW hblk => (mS ga bi rb _ _ [1, 1, 2] w hblk ⟨z33, z33, trivial⟩ hb (by omega) (by decide))) ?_
 rintro v cs L ⟨a, rfl, _, rfl, rfl⟩
 rotate_left
 refine CaseB.mk (fun e5 => ?_) (fun e5 => ?_)
 refine AllSl.mk fun l2 => ?_
 refine bY _ rU rfl rfl rfl rfl ⟨rfl, rfl⟩ rfl rfl (fun A w ga hga hW hblk => (mS ga bi rb _ _ [-1, 1, -2] w hblk ⟨z33, z33, trivial⟩ hb (by omega) (by decide))) ?_
 rintro v cs L ⟨a, rfl, _, rfl, rfl⟩
 rotate_left
 refine CaseB.mk (fun e1 => ?_) (fun e1 => ?_)
 refine CaseB.mk (fun _ => ?_) (fun h => by rw [e1] at h; cases h)
 refine AllSl.mk fun l2 => ?_
 refine bY _ rU rfl rfl rfl rfl ⟨rfl, rfl⟩ rfl rfl (fun A w ga hga hW hblk => (mS ga bi rb _ _ [7, 1, 2, 99] w hblk ⟨z33, z33, trivial⟩ hb (by omega) (by decide))) ?_
 rintro v cs L ⟨a, rfl, _, rfl, rfl⟩
 rotate_left
 refine CaseB.mk (fun e4 => ?_) (fun e4 => ?_)
 refine CaseB.mk (fun _ => ?_) (fun h => by rw [e4] at h; cases h)
 refine AllSl.mk fun l2 => ?_
 refine bY _ rU rfl rfl rfl rfl ⟨rfl, rfl⟩ rfl rfl (fun A w ga hga hW hblk => (mS ga bi rb _ _ [7, 1, 2, 99] w hblk ⟨z33, z33, trivial⟩ hb (by omega) (by decide))) ?_
 rintro v cs L ⟨a, rfl, _, rfl, rfl⟩
 rotate_left
 refine CaseB.mk (fun e8 => ?_) (fun e8 => ?_)
 refine AllSl.mk fun l2 => ?_
 refine bY _ rU rfl rfl rfl rfl ⟨rfl, rfl⟩ rfl rfl (fun A w ga hga hW hblk => (mS ga bi rb _ _ [7, 1, 2, 99] w hblk ⟨z33, z33, trivial⟩ hb (by omega) (by decide))) ?_
 rintro v cs L ⟨a, rfl, _, rfl, rfl⟩
 rotate_left
 · refine aB _ wQ rfl rfl rfl rfl ⟨rfl, rfl⟩ (fun A w hW => (jT q ⟨k, (on : Int), 0⟩ w ⟨hW.get 2 rfl (.refl _), trivial⟩)) ?_
   rintro v L ⟨b1, rfl, hb1, rfl⟩
   refine CaseB.mk (fun g1 => ?_) (fun g1 => ?_)
   · refine aB _ wQ rfl rfl rfl rfl ⟨rfl, rfl⟩ (fun A w hW => (jT q ⟨k, 0, 0⟩ w ⟨hW.get 2 rfl (.refl _), trivial⟩)) ?_
     rintro v L ⟨b2, rfl, hb2, rfl⟩
     refine CaseB.mk (fun g2 => ?_) (fun g2 => ?_)
     · refine bY _ vW rfl rfl rfl rfl ⟨rfl, rfl⟩ rfl rfl (fun A w ga hga hW hblk => (lV ga bi rb _ _ w hblk ⟨z33, trivial⟩ hb (by omega))) ?_
       rintro v cs L ⟨e, rfl, he, _, rfl, rfl⟩
       have he9 := he (by decide)
       exact mR [] ⟨⟨1, 0, (e : Int)⟩, _, rfl, (jT0 rfl).2 ⟨rfl, by simp [aV]; omega⟩, rfl, by omega, rfl⟩ rfl rfl trivial rfl trivial (fun _ => rfl)
     · exact mR [] ⟨⟨k, 0, 0⟩, _, rfl, hb2.1 z93, rfl, by omega, rfl⟩ rfl rfl trivial rfl trivial (fun _ => rfl)
   · have e1 : b1 = true := by simpa using g1
     refine aB _ wQ rfl rfl rfl rfl ⟨rfl, rfl⟩ (fun A w hW => (jT q ⟨k, (on : Int), 0⟩ w ⟨hW.get 2 rfl (.refl _), trivial⟩)) ?_
     rintro v L ⟨b2, rfl, hb2, rfl⟩
     refine CaseB.mk (fun g2 => by rw [hb2.2 (hb1.1 e1)] at g2; cases g2) (fun _ => ?_)
     exact mR [] ⟨⟨k, (on : Int), 0⟩, _, rfl, hb1.1 e1, rfl, by omega, rfl⟩ rfl rfl trivial rfl trivial (fun _ => rfl)
 all_goals
   refine aB _ wQ rfl rfl rfl rfl ⟨rfl, rfl⟩ (fun A w hW => (jT q ⟨k, (on : Int), a⟩ w ⟨hW.get 3 rfl (.refl _), trivial⟩)) ?_
   rintro v L ⟨b1, rfl, hb1, rfl⟩
   refine CaseB.mk (fun g1 => ?_) (fun g1 => ?_)
   · refine aB _ wQ rfl rfl rfl rfl ⟨rfl, rfl⟩ (fun A w hW => (jT q ⟨k, 0, a⟩ w ⟨hW.get 3 rfl (.refl _), trivial⟩)) ?_
     rintro v L ⟨b2, rfl, hb2, rfl⟩
     refine CaseB.mk (fun g2 => ?_) (fun g2 => ?_)
     · refine bY _ vW rfl rfl rfl rfl ⟨rfl, rfl⟩ rfl rfl (fun A w ga hga hW hblk => (lV ga bi rb _ _ w hblk ⟨z33, trivial⟩ hb (by omega))) ?_
       rintro v cs L ⟨e, rfl, he, _, rfl, rfl⟩
       have he9 := he (by decide)
       exact mR [] ⟨⟨1, 0, (e : Int)⟩, _, rfl, (jT0 rfl).2 ⟨rfl, by simp [aV]; omega⟩, rfl, by omega, rfl⟩ rfl rfl trivial rfl trivial (fun _ => rfl)
     · exact mR [] ⟨⟨k, 0, a⟩, _, rfl, hb2.1 z93, rfl, by omega, rfl⟩ rfl rfl trivial rfl trivial (fun _ => rfl)
   · have e1 : b1 = true := by simpa using g1
     refine aB _ wQ rfl rfl rfl rfl ⟨rfl, rfl⟩ (fun A w hW => (jT q ⟨k, (on : Int), a⟩ w ⟨hW.get 3 rfl (.refl _), trivial⟩)) ?_
     rintro v L ⟨b2, rfl, hb2, rfl⟩
     refine CaseB.mk (fun g2 => by rw [hb2.2 (hb1.1 e1)] at g2; cases g2) (fun _ => ?_)
     exact mR [] ⟨⟨k, (on : Int), a⟩, _, rfl, hb1.1 e1, rfl, by omega, rfl⟩ rfl rfl trivial rfl trivial (fun _ => rfl)
def gN0 (q : ProgH) : List Fct := [own q.h0 3 aJ 1 q.sems, own q.h1 3 aJ 1 q.groups, own q.h2 3 aJ 1 q.barriers, own q.h3 3 aJ 1 q.rooms] ++ q.threads.flatMap pX
theorem zU (q : ProgH) : (aY q).Perm ([own q.h4 68 kP 1 q.threads] ++ gN0 q) :=
 (List.Perm.of_eq (by simp [aY, oF, iK] : aY q = [own q.h0 3 aJ 1 q.sems, own q.h1 3 aJ 1 q.groups, own q.h2 3 aJ 1 q.barriers, own q.h3 3 aJ 1 q.rooms] ++ own q.h4 68 kP 1 q.threads :: q.threads.flatMap pX)).trans List.perm_middle
theorem lN0 (q : ProgH) (x : OpSH) (z : Sl) : ([own z 68 kP 1 (q.threads ++ [x])] ++ (gN0 q ++ [own x.q 65 cOp 3 x.m])).Perm (aY { q with threads := q.threads ++ [x], h4 := z }) := by
 refine List.Perm.trans ?_ (zU { q with threads := q.threads ++ [x], h4 := z }).symm
 exact .of_eq (by simp [gN0, pX])
theorem mZ0 (g : Nat) (bi : Sl) (rb : List UInt8) (p : Nat) (w : World) (hg : Blk w g 140 (nW bi rb p)) (h : AtP w g [slo bi iI 1 rb]) (hb : rb.length ≤ 2000) (hp : p < 100000) :
   Calls Tryz.prog 40 #[.pointer (some ⟨g, 0, none⟩)] w (wV w g 140 2 fun v cs L => ∃ (q : ProgH) (p2 : Nat), v = dW q ∧ ProgOk q.pure ∧ cs = nW bi rb p2 ∧ p2 ≤ p + 100 ∧ L = [fO (aY q)]) := by
 refine aK0 Tryz.func40 rfl aA w _ rfl _ rfl _ 140 _ 2 rfl hg _ h ⟨rfl, rfl, trivial⟩ (by decide) ?_
 refine bY _ vW rfl rfl rfl rfl ⟨rfl, rfl⟩ rfl rfl (fun A w ga hga hW hblk => (lV ga bi rb _ _ w hblk ⟨z33, trivial⟩ hb (by omega))) ?_
 rintro v cs L ⟨k0, rfl, _, _, rfl, rfl⟩
 refine CaseB.mk (fun g0 => ?_) (fun g0 => ?_)
 · refine aB _ cl101 rfl rfl rfl rfl ⟨rfl, rfl⟩ (fun A w hW => (iK0 w)) ?_
   rintro v L ⟨y, rfl, rfl⟩
   refine bY _ cl100 rfl rfl rfl rfl ⟨rfl, rfl⟩ rfl rfl (fun A w ga hga hW hblk => (of_c ga bi rb _ y samplesL w hblk ⟨z33, z33, trivial⟩ hb (by omega) (by decide))) ?_
   rintro v cs L ⟨x, rfl, hx, rfl, rfl⟩
   obtain ⟨hl, hok, hfm⟩ := eS0 x hx
   refine aB _ cl99 rfl rfl rfl rfl ⟨rfl, rfl⟩ (fun A w hW => (dI0 x w (by omega) hok hfm)) ?_
   rintro v L ⟨q, rfl, hq, rfl⟩
   exact mR [0] ⟨q, _, rfl, by rw [hq]; exact hok, rfl, by omega, rfl⟩ rfl rfl z144 rfl ⟨rfl, trivial⟩ (fun _ => rfl)
 refine AllSl.mk fun l1 => ?_
 refine bY _ rU rfl rfl rfl rfl ⟨rfl, rfl⟩ rfl rfl (fun A w ga hga hW hblk => (mS ga bi rb _ _ [1, 2, 3] w hblk ⟨z33, z33, trivial⟩ hb (by omega) (by decide))) ?_
 rintro v cs L ⟨x0, rfl, hx0, rfl, rfl⟩
 refine AllSl.mk fun a0 => ?_
 refine AllSl.mk fun l2 => ?_
 refine bY _ rU rfl rfl rfl rfl ⟨rfl, rfl⟩ rfl rfl (fun A w ga hga hW hblk => (mS ga bi rb _ _ [1, 2, 0] w hblk ⟨z33, z33, trivial⟩ hb (by omega) (by decide))) ?_
 rintro v cs L ⟨x1, rfl, hx1, rfl, rfl⟩
 refine AllSl.mk fun a1 => ?_
 refine AllSl.mk fun a2 => ?_
 refine AllSl.mk fun l3 => ?_
 refine bY _ rU rfl rfl rfl rfl ⟨rfl, rfl⟩ rfl rfl (fun A w ga hga hW hblk => (mS ga bi rb _ _ [1, 0, 2] w hblk ⟨z33, z33, trivial⟩ hb (by omega) (by decide))) ?_
 rintro v cs L ⟨x2, rfl, hx2, rfl, rfl⟩
 refine AllSl.mk fun a3 => ?_
 refine bY _ vW rfl rfl rfl rfl ⟨rfl, rfl⟩ rfl rfl (fun A w ga hga hW hblk => (lV ga bi rb _ _ w hblk ⟨z33, trivial⟩ hb (by omega))) ?_
 rintro v cs L ⟨k1, rfl, hk1, _, rfl, rfl⟩
 have hk2 := hk1 (by decide)
 have hn0 : IntKind.i64.wrap (2 + (k1 : Int)) = ((2 + k1 : Nat) : Int) := by rw [cY] <;> omega
 have ok0 : ProgOk (Prog.mk [x0, 1] [x1] [2] [x2] [[]]) := by
   simp only [List.mem_cons, List.not_mem_nil, or_false] at hx0 hx1 hx2
   refine ⟨⟨by simp, fun x hx => ?_⟩, ⟨by simp, fun x hx => ?_⟩, ⟨by simp, fun x hx => ?_⟩, ⟨by simp, fun x hx => ?_⟩, by simp, by simp, fun t ht => ?_⟩
   · simp at hx; omega
   · simp at hx; omega
   · simp at hx; omega
   · simp at hx; omega
   · simp at ht; subst ht; exact ⟨by simp, fun o ho => by cases ho⟩
 clear hx0 hx1 hx2
 refine LoopW.mk ⟨{ u : Nat × ProgH × Nat // u.1 + u.2.1.threads.length = 2 + k1 ∧ (∀ t ∈ u.2.1.threads, t.m.length ≤ 8 ∧ ∀ o ∈ t.m, OpOk (Prog.mk [x0, 1] [x1] [2] [x2] [[]]) o) ∧ (u.2.1.sems = [x0, 1] ∧ u.2.1.groups = [x1] ∧ u.2.1.barriers = [2] ∧ u.2.1.rooms = [x2]) ∧ u.2.2 ≤ p + 5 + 20 * u.2.1.threads.length },
   fun u => .mk [(0, .p 0 0), (2, .p 1 0), (5, .p 2 0), (6, .v (.int .i64 (u.1.1 : Int)))] 3 0 [(2, 26, 5), (1, 26, 5), (0, 140, 2)] [((0, 0), .v (bi.val rb.length)), ((0, 1), .v (.int .i64 (u.1.2.2 : Int))), ((2, 0), .v (u.1.2.1.h0.val u.1.2.1.sems.length)), ((2, 1), .v (u.1.2.1.h1.val u.1.2.1.groups.length)), ((2, 2), .v (u.1.2.1.h2.val u.1.2.1.barriers.length)), ((2, 3), .v (u.1.2.1.h3.val u.1.2.1.rooms.length)), ((2, 4), .v (u.1.2.1.h4.val u.1.2.1.threads.length))] [fO (aY u.1.2.1), slo bi iI 1 rb],
   fun u => u.1.1, ⟨(2 + k1, ⟨[x0, 1], [x1], [2], [x2], [], a0, a1, a2, a3, ⟨none, 0⟩⟩, p + 5), rfl, fun t ht => (by cases ht), ⟨rfl, rfl, rfl, rfl⟩, Nat.le_refl _⟩, ?_, ?_⟩
 · refine aP (.joinO [5, 3, 2, 0, 90] (Gs := [[_], [_], [_], [_], [own ⟨none, 0⟩ 68 kP 1 ([] : List OpSH)]]) ⟨.inl ⟨_, rfl, .own⟩, .inl ⟨_, rfl, .own⟩, .inl ⟨_, rfl, .own⟩, .inl ⟨_, rfl, .own⟩, .inr ⟨Nat.le_of_ble_eq_true rfl, fun g hg => by simp only [List.mem_singleton] at hg; subst hg; exact ⟨rfl, rfl, rfl, rfl⟩⟩, trivial⟩ rfl (G := aY ⟨[x0, 1], [x1], [2], [x2], [], a0, a1, a2, a3, ⟨none, 0⟩⟩) (.of_eq rfl)) ?_
   refine aC [0, 4] ?_ ?_ ?_ ?_ ?_ rfl rfl
   · exact zw22
   · exact zw0
   · exact zw22
   · exact zw5
   · repeat (first | exact trivial | refine ⟨.inl ⟨_, rfl, (by first | rfl | ((exact congrArg (fun z => SV.v (Value.int .i64 z)) hn0)))⟩, ?_⟩ | refine ⟨.inr z139, ?_⟩)
 rintro ⟨⟨i, q, p1⟩, i1, i2, i3, i4⟩
 simp only at i1 i2 i3 i4 ⊢
 refine CaseB.mk (fun gi => ?_) (fun gi => ?_)
 · have hi : 0 < i := by have := of_decide_eq_true gi; omega
   have hwi : IntKind.i64.wrap ((i : Int) - 1) = ((i - 1 : Nat) : Int) := by rw [cY] <;> omega
   refine AllSl.mk fun z0 => ?_
   refine AllSl.mk fun l4 => ?_
   refine bY _ rU rfl rfl rfl rfl ⟨rfl, rfl⟩ rfl rfl (fun A w ga hga hW hblk => (mS ga bi rb _ _ [2, 3, 1, 4, 0] w hblk ⟨z33, z33, trivial⟩ hb (by omega) (by decide))) ?_
   rintro v cs L ⟨m, rfl, hm, rfl, rfl⟩
   have hm4 : 0 ≤ m ∧ m ≤ 4 := by simp at hm; omega
   clear hm
   refine LoopW.mk ⟨{ u : Int × Sl × List Op × Nat // 0 ≤ u.1 ∧ u.1 + u.2.2.1.length = m ∧ (∀ o ∈ u.2.2.1, OpOk q.pure o) ∧ u.2.2.2 ≤ p1 + 1 + 4 * u.2.2.1.length },
     fun u => .mk [(0, .p 0 0), (2, .p 1 0), (5, .p 2 0), (6, .v (.int .i64 (i : Int))), (7, .v (u.1.2.1.val u.1.2.2.1.length)), (8, .v (.int .i64 u.1.1))] 3 0 [(2, 26, 5), (1, 26, 5), (0, 140, 2)] [((0, 0), .v (bi.val rb.length)), ((0, 1), .v (.int .i64 (u.1.2.2.2 : Int))), ((2, 0), .v (q.h0.val q.sems.length)), ((2, 1), .v (q.h1.val q.groups.length)), ((2, 2), .v (q.h2.val q.barriers.length)), ((2, 3), .v (q.h3.val q.rooms.length)), ((2, 4), .v (q.h4.val q.threads.length))] [own u.1.2.1 65 cOp 3 u.1.2.2.1, fO (aY q), slo bi iI 1 rb],
     fun u => u.1.1.toNat, ⟨(m, z0, [], p1 + 1), hm4.1, by simp, by simp, Nat.le_refl _⟩, ?_, ?_⟩
   · exact aC [1, 2, 3] zw2 zw0 zw2 zw5 zw4 rfl rfl
   rintro ⟨⟨j, z, ops, p2⟩, j1, j2, j3, j4⟩
   simp only at j1 j2 j3 j4 ⊢
   refine CaseB.mk (fun gj => ?_) (fun gj => ?_)
   · have hj : 0 < j := by have := of_decide_eq_true gj; omega
     have hwj : IntKind.i64.wrap (j - 1) = j - 1 := by rw [cY] <;> omega
     refine bY _ cl102 rfl rfl rfl rfl ⟨rfl, rfl⟩ rfl rfl (fun A w ga hga hW hblk => (op6_c ga bi rb _ q w hblk ⟨hW.getP _ hga rfl 2 rfl (.refl _), hW.getP _ hga rfl 1 rfl (.O_R fun _ h => h), trivial⟩ hb (by omega))) ?_
     rintro v cs L ⟨o, p3, rfl, ho, rfl, hp3, rfl⟩
     refine AllSl.mk fun b => ?_
     refine bQ oE 1 aA (xs := ops) (ys := [o]) rfl rfl rfl rfl rfl rfl rfl rfl rfl (by decide) ⟨rfl, rfl⟩ rfl z35 z43 z43 (fun z3 => ?_)
     refine ⟨⟨(j - 1, z3, ops ++ [o], p3), show 0 ≤ j - 1 by omega, by simp; omega, fun o' ho' => ?_, by simp; omega⟩, ?_, by simp only; omega⟩
     · rcases List.mem_append.1 ho' with h | h
       · exact j3 _ h
       · simp only [List.mem_singleton] at h; subst h; exact ho
     · exact aC [0, 2, 3] zw6 zw0 zw6 zw5 zw11 rfl rfl
   refine AllSl.mk fun b => ?_
   refine xA (.splitO 2 (L := [own q.h4 68 kP 1 q.threads]) (G' := gN0 q) rfl (zU q)) ?_
   obtain ⟨x, hx⟩ : ∃ x : OpSH, x = ⟨ops, z⟩ := ⟨_, rfl⟩
   refine bQ dT 0 aA (xs := q.threads) (ys := [⟨ops, z⟩]) rfl rfl rfl rfl rfl rfl rfl rfl rfl (by decide) ⟨rfl, rfl⟩ rfl z35 z43 z43 (fun z5 => ?_)
   rw [← hx]
   refine ⟨⟨(i - 1, { q with threads := q.threads ++ [x], h4 := z5 }, p2), by simp; omega, fun t ht => ?_, i3, by simp; omega⟩, ?_, by simp only; omega⟩
   · have hq : q.pure = ⟨[x0, 1], [x1], [2], [x2], q.threads.map (·.m)⟩ := by simp [ProgH.pure, i3.1, i3.2.1, i3.2.2.1, i3.2.2.2]
     rcases List.mem_append.1 ht with ht | ht
     · exact i2 t ht
     · simp only [List.mem_singleton] at ht
       rw [ht, hx]
       exact ⟨by show ops.length ≤ 8; omega, fun o ho => by have := j3 o ho; rw [hq] at this; exact this⟩
   · refine aP (.joinO [0, 1, 3] (Gs := [[_], _, [_]]) ⟨.inl ⟨_, rfl, .own⟩, .inl ⟨_, rfl, .o⟩, .inl ⟨_, rfl, .own⟩, trivial⟩ rfl (G := aY { q with threads := q.threads ++ [x], h4 := z5 }) (by subst hx; exact lN0 q _ z5)) ?_
     exact aC [0, 2] zw13 zw0 zw13 zw5 zw28 rfl rfl
 have hi : i = 0 := by have := of_decide_eq_false gi; omega
 have hq : q.pure = ⟨[x0, 1], [x1], [2], [x2], q.threads.map (·.m)⟩ := by simp [ProgH.pure, i3.1, i3.2.1, i3.2.2.1, i3.2.2.2]
 have hops : ∀ t ∈ q.threads.map (·.m), t.length ≤ 8 ∧ ∀ o ∈ t, OpOk (Prog.mk [x0, 1] [x1] [2] [x2] [[]]) o := fun t ht => by
   obtain ⟨t', ht', rfl⟩ := List.mem_map.1 ht
   exact i2 t' ht'
 have hl : (q.threads.map (·.m)).length = 2 + k1 := by rw [List.length_map]; omega
 have ok : ProgOk q.pure := by
   rw [hq]
   exact ⟨ok0.sems, ok0.groups, ok0.barriers, ok0.rooms, by show 1 ≤ (q.threads.map (·.m)).length; omega, by show (q.threads.map (·.m)).length ≤ 4; omega, hops⟩
 exact mR [0] ⟨q, _, rfl, ok, rfl, by omega, rfl⟩ rfl rfl z144 rfl ⟨rfl, trivial⟩ (fun _ => rfl)
section
variable {T T' : List (Nat × SV)}
theorem look_cons (h : Sx.look T' = Sx.look T) (d : Nat) (s : SV) : Sx.look ((d, s) :: T') = Sx.look ((d, s) :: T) := by
 funext k
 simp only [Sx.look, h]
theorem qM (h : Sx.look T' = Sx.look T) : bF T' = bF T := by
 funext x
 cases x <;> simp only [bF, h]
theorem xX (h : Sx.look T' = Sx.look T) : mN T' = mN T := by
 funext x
 simp only [mN, qM h]
theorem iL0 (h : Sx.look T' = Sx.look T) : pK T' = pK T := by
 funext xs
 induction xs with
 | nil => rfl
 | cons x r ih => simp only [pK, qM h, ih]
theorem dJ0 (h : Sx.look T' = Sx.look T) (fs : List (Nat × Nat × Bool)) (ps : List (Nat × Operand)) : ∀ cs, kH fs T' cs ps = kH fs T cs ps := by
 induction ps with
 | nil => intro cs; simp only [kH]
 | cons x r ih =>
   intro cs
   obtain ⟨i, x⟩ := x
   simp only [kH, xX h, ih]
theorem iM0 (h : Sx.look T' = Sx.look T) (esz : Nat) (ps : List (Nat × Operand)) : ∀ i, lU T' esz i ps = lU T esz i ps := by
 induction ps with
 | nil => intro i; simp only [lU]
 | cons x r ih =>
   intro i
   obtain ⟨j, x⟩ := x
   simp only [lU, xX h, ih]
theorem lO0 (h : Sx.look T' = Sx.look T) (ti : Nat → TI) (c : Nat) (M : List ((Nat × Nat) × SV)) (op : Go.Op) : rG ti T' c M op = rG ti T c M op := by
 cases op <;> simp only [rG, fA0, fB0, sJ, zY, oO, rF, lZ0, pUn, fC0, mA0, fD0, mB0, aA0, qM h, xX h, iL0 h, dJ0 h]
theorem xY (h : Sx.look T' = Sx.look T) (ops : List Oper) (g : Option (Nat × Bool)) : eA ops T' g = eA ops T g := by
 cases g with
 | none => rfl
 | some g => obtain ⟨j, kE⟩ := g; simp only [eA, dQ0, h]
theorem vS (h : Sx.look T' = Sx.look T) (ti : Nat → TI) (ops : List Oper) (c : Nat) (Ms : List ((Nat × Nat) × SV)) : ∀ l, eB ti ops T' c Ms l = eB ti ops T c Ms l
 | [] => rfl
 | i :: r => by simp only [eB, xY h, lO0 h, vS h ti ops c Ms r]
theorem TD.cg (h : Sx.look T' = Sx.look T) {E : Env} {A : Nat → Nat} {n c : Nat} {a : Act} {w : World} (k : TD E A T' n c a w) : TD E A T n c a w := ⟨k.size, k.defers, fun t v hv => k.tm t v (by rw [h]; exact hv)⟩
end
theorem WD.perm {E : Env} {A : Nat → Nat} {n : Nat} {B : List (Nat × TypeId × Nat)} {M : List ((Nat × Nat) × SV)} {Zs Zs' : List Fct} {w : World} (h : Zs'.Perm Zs) (k : WD E A n B M Zs' w) : WD E A n B M Zs w :=
 ⟨k.key, k.inj, k.mem, k.a0, k.n0, k.ext, fun f hf => k.fct f (h.mem_iff.2 hf), (h.pairwise_iff (fun h => Dj.symm h)).1 k.dj⟩
def uU (K : St → Prop) : Prop := ∀ (T T' : List (Nat × SV)) (n c : Nat) (B : List (Nat × TypeId × Nat)) (M : List ((Nat × Nat) × SV)) (Zs Zs' : List Fct), Sx.look T' = Sx.look T → Zs'.Perm Zs → K (.mk T n c B M Zs) → K (.mk T' n c B M Zs')
theorem uA {E : Env} {o : Oper} {Ms : List ((Nat × Nat) × SV)} {Fs : List Fct} {next : St → Prop} {T T' : List (Nat × SV)} {n c : Nat} {B : List (Nat × TypeId × Nat)} {M : List ((Nat × Nat) × SV)} {Zs Zs' : List Fct} (h : Sx.look T' = Sx.look T) (hp : Zs'.Perm Zs) (k : OpW (opD E o Ms Fs next T n c B M Zs)) : OpW (opD E o Ms Fs next T' n c B M Zs') :=
 ⟨fun hm hf A a w hW hT => k.out hm (fun f hf' => hp.mem_iff.1 (hf f hf')) A a w (WD.perm hp hW) (TD.cg h hT)⟩
theorem iN0 {E : Env} {ti : Nat → TI} {o : Oper} {Ms : List ((Nat × Nat) × SV)} {Fs : List Fct} {next : St → Prop} (hn : uU next) {T T' : List (Nat × SV)} {n c : Nat} {B : List (Nat × TypeId × Nat)} {M : List ((Nat × Nat) × SV)} {Zs Zs' : List Fct} (h : Sx.look T' = Sx.look T) (hp : Zs'.Perm Zs) (op : Go.Op) (k : yA E ti o Ms Fs next T n c B M Zs op) : yA E ti o Ms Fs next T' n c B M Zs' op := by
 cases op with
 | alloc t =>
   simp only [yA] at k ⊢
   cases hti : ti t with
   | none => simp only [hti] at k
   | mk agg sz zero fs el ik kk b8 =>
     simp only [hti] at k ⊢
     cases hd : o.dst with
     | none => simp only [hd] at k
     | some d =>
       simp only [hd] at k ⊢
       cases h1 : Nat.blt d E.N with
       | false => simp only [h1] at k
       | true =>
         simp only [h1] at k ⊢
         cases h2 : Nat.beq (dG zero) sz with
         | false => simp only [h2] at k
         | true =>
           simp only [h2, eJ] at k ⊢
           exact hn _ _ _ _ _ _ _ _ (look_cons h _ _) hp k
 | load t x =>
   have e : rF (ti t) T' c M x = rF (ti t) T c M x := by simp only [rF, qM h]
   simp only [yA, e] at k ⊢
   cases hs : rF (ti t) T c M x with
   | none =>
     simp only [hs] at k ⊢
     exact uA h hp k
   | some s =>
     simp only [hs] at k ⊢
     cases hd : o.dst with
     | none => simp only [hd] at k
     | some d =>
       simp only [hd] at k ⊢
       cases h1 : Nat.blt d E.N with
       | false => simp only [h1] at k
       | true =>
         simp only [h1] at k ⊢
         cases s with
         | e a b c d => exact k
         | _ => exact hn _ _ _ _ _ _ _ _ (look_cons h _ _) hp k
 | store t x y =>
   simp only [yA, qM h] at k ⊢
   cases hd : o.dst with
   | some d => simp only [hd] at k
   | none =>
     simp only [hd] at k ⊢
     cases hx : bF T x with
     | none =>
       simp only [hx] at k ⊢
       exact uA h hp k
     | some v =>
       cases v with
       | p k0 off =>
         simp only [hx] at k ⊢
         cases hti : ti t with
         | none => simp only [hti] at k
         | mk agg sz zero fs el ik kk b8 =>
           simp only [hti] at k ⊢
           cases hy : bF T y with
           | none => simp only [hy] at k
           | some u =>
             simp only [hy] at k ⊢
             cases hl : iR u with
             | none => simp only [hl] at k
             | some l =>
               simp only [hl] at k ⊢
               cases h1 : Nat.beq (dG l) sz with
               | false => simp only [h1] at k
               | true =>
                 simp only [h1] at k ⊢
                 cases h2 : uZ B k0 with
                 | none => simp only [h2] at k
                 | some bsz =>
                   simp only [h2] at k ⊢
                   cases h3 : Nat.ble (off + sz) bsz with
                   | false => simp only [h3] at k
                   | true =>
                     simp only [h3] at k ⊢
                     cases h4 : sP Ms k0 off sz with
                     | false => simp only [h4] at k
                     | true =>
                       simp only [h4, eJ] at k ⊢
                       exact hn _ _ _ _ _ _ _ _ h hp k
       | _ =>
         simp only [hx] at k ⊢
         exact uA h hp k
 | buildSlice t len ps =>
   simp only [yA, iM0 h] at k ⊢
   cases hti : ti t with
   | none => simp only [hti] at k
   | mk agg size zero fs el ik kk b8 =>
     cases el with
     | none => simp only [hti] at k
     | some e =>
       simp only [hti] at k ⊢
       cases hte : ti e with
       | none => simp only [hte] at k
       | mk agg2 esz zero2 fs2 el2 ik2 kk2 b82 =>
         simp only [hte] at k ⊢
         cases hd : o.dst with
         | none => simp only [hd] at k
         | some d =>
           simp only [hd] at k ⊢
           cases h1 : Nat.blt d E.N with
           | false => simp only [h1] at k
           | true =>
             simp only [h1] at k ⊢
             cases h2 : Nat.beq (dG ps.toList) len with
             | false => simp only [h2] at k
             | true =>
               simp only [h2] at k ⊢
               cases h3 : Nat.ble (len * esz + len) 16777216 with
               | false => simp only [h3] at k
               | true =>
                 simp only [h3] at k ⊢
                 cases h4 : lU T esz 0 ps.toList with
                 | none => simp only [h4] at k
                 | some cs =>
                   simp only [h4] at k ⊢
                   exact ⟨fun y => hn _ _ _ _ _ _ _ _ (look_cons h _ _) (hp.cons _) (k.out y)⟩
 | _ => exact uA h hp k
theorem zV {p q : Nat → Prop} : ∀ {l : List Nat}, (∀ i, p i → q i) → gV0 l p → gV0 l q
 | [], _, _ => trivial
 | [i], h, k => h i k
 | i :: j :: r, h, k => ⟨h i k.l, zV (l := j :: r) h k.r⟩
theorem xZ {E : Env} {ti : Nat → TI} {ops : List Oper} {n0 : Nat} {B0 : List (Nat × TypeId × Nat)} {Ms : List ((Nat × Nat) × SV)} {Fs : List Fct} {K : St → Prop} (hK : uU K) : ∀ (f : Nat) (L : List Bool), uU (vcD E ti ops n0 B0 Ms Fs K f L)
 | 0, L => fun _ _ _ _ _ _ _ _ _ _ k => k
 | f + 1, L => by
   intro T T' n c B M Zs Zs' h hp k
   have ih := xZ (E := E) (ti := ti) (ops := ops) (n0 := n0) (B0 := B0) (Ms := Ms) (Fs := Fs) hK f
   simp only [vcD, vS h] at k ⊢
   cases hpk : eB ti ops T c Ms (iA L 0 ops L) with
   | pure i d s =>
     simp only [hpk] at k ⊢
     cases d with
     | none => exact ih _ _ _ _ _ _ _ _ _ h hp k
     | some d =>
       simp only at k ⊢
       cases h1 : Nat.blt d E.N with
       | false => simp only [h1] at k
       | true =>
         simp only [h1] at k ⊢
         exact ih _ _ _ _ _ _ _ _ _ (look_cons h _ _) hp k
   | skip i d =>
     simp only [hpk] at k ⊢
     cases d with
     | none => exact ih _ _ _ _ _ _ _ _ _ h hp k
     | some d =>
       simp only at k ⊢
       cases h1 : Nat.blt d E.N with
       | false => simp only [h1] at k
       | true =>
         simp only [h1] at k ⊢
         exact ih _ _ _ _ _ _ _ _ _ (look_cons h _ _) hp k
   | split t b =>
     simp only [hpk] at k ⊢
     exact ⟨fun e => ih _ _ _ _ _ _ _ _ _ (look_cons h _ _) hp (k.t e), fun e => ih _ _ _ _ _ _ _ _ _ (look_cons h _ _) hp (k.f e)⟩
   | idx i o =>
     simp only [hpk] at k ⊢
     refine ⟨fun A => ?_⟩
     obtain ⟨s, h1, d, h2, h3⟩ := k.out A
     exact ⟨s, fun a w hW hT => h1 a w hW (TD.cg h hT), d, h2, ih _ _ _ _ _ _ _ _ _ (look_cons h _ _) hp h3⟩
   | none =>
     simp only [hpk] at k ⊢
     cases hr : iA L 0 ops L with
     | nil =>
       simp only [hr] at k ⊢
       exact hK _ _ _ _ _ _ _ _ h hp k
     | cons i r =>
       simp only [hr] at k ⊢
       refine zV (fun j kj => ?_) k
       cases ho : nth ops j with
       | none => simp only [ho] at kj
       | some o =>
         simp only [ho, xY h] at kj ⊢
         cases hg : eA ops T o.guard with
         | go =>
           simp only [hg] at kj ⊢
           exact iN0 (ih (rV L j)) h hp o.op kj
         | _ => simp only [hg] at kj
theorem zW {E : Env} {α : Type} {tgt : α → St} : uU fun s => ∃ y, Weak E s (tgt y) := by
 rintro T T' n c B M Zs Zs' h hp ⟨y, k⟩
 exact ⟨y, fun a w ⟨A, hW, hT⟩ => k a w ⟨A, WD.perm hp hW, TD.cg h hT⟩⟩
end Go.Proofs.YtijmjecehppbfaaGreat
