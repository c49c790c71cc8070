/- FnFormatState: texts that its proof stands on, part 9. -/
import Derived.Test.YtchkcjeeknfchaaGreatDoorQFormatStateh
namespace Go.Proofs.YtchkcjeeknfchaaGreatDoor
set_option maxRecDepth 100000
set_option maxHeartbeats 100000000
open Go Go.Sx Go.RowKit
def iL0 : Prog := ⟨[], [], [], [], []⟩
def mQ0 : ProgH := ⟨[], [], [], [], [], ⟨none, 0⟩, ⟨none, 0⟩, ⟨none, 0⟩, ⟨none, 0⟩, ⟨none, 0⟩⟩
def mP (ls : List Str) : List Str := (ls.take (ls.length - 1)).take 9
theorem cW0 {α β : Type} (f : β → α → β) (z : β) (l : List α) {k : Nat} (h : k < l.length) : (l.take (k + 1)).foldl f z = f ((l.take k).foldl f z) l[k] := by
 rw [List.take_succ_eq_append_getElem h, List.foldl_append]; rfl
theorem bB0 (t : Str) (w : World) (hb : t.length ≤ 1000) (ok : ProgOk (qP t)) (hf : rY (qP t) = t) :
   Calls Tryz.prog 136 #[.string (bs t)] w (Ret w fun v L => ∃ p : ProgH, v = .tuple #[eJ p, .bool true] ∧ p.pure = qP t ∧ L = [fO (bD p)]) := by
 have hcl := rU 10 t
 have hpt : ∀ x ∈ fI 10 t, x.length ≤ 1000 := fun x hx => Nat.le_trans (pS hx) hb
 have hM : qP t = (mP (fI 10 t)).foldl kF iL0 := rfl
 generalize qP t = M at ok hf hM ⊢
 refine bU Tryz.func136 rfl aA w _ rfl _ rfl [] trivial trivial _ (by decide) ?_
 refine aB _ dH0 rfl rfl rfl rfl ⟨rfl, rfl⟩ (fun A w hW => (dV0 t 10 w (by omega))) ?_
 rintro v L ⟨y, rfl, rfl⟩
 generalize fI 10 t = ls at hcl hpt hM ⊢
 have hLl : (mP ls).length ≤ 9 ∧ (mP ls).length + 1 ≤ ls.length ∧ ((mP ls).length = 9 ∨ (mP ls).length + 1 = ls.length) := by
   simp only [mP, List.length_take]; omega
 have hLi : ∀ (i : Nat) (h : i < (mP ls).length) (h2 : i < ls.length), (mP ls)[i] = ls[i] := fun i h h2 => by simp [mP]
 generalize mP ls = Ls at hM hLl hLi
 refine LoopW.mk ⟨{ q : Nat × ProgH // q.1 ≤ Ls.length ∧ q.2.pure = (Ls.take q.1).foldl kF iL0 ∧ q.2.threads.length ≤ q.1 },
   fun q => .mk [(0, .v (.string (bs t))), (2, .p 0 0), (4, .v (y.val ls.length)), (5, .p 1 0), (6, .v (.int .i64 (q.1.1 : Int)))] 2 0 [(0, 38, 5), (1, 38, 5)] [((1, 0), .v (q.1.2.h0.val q.1.2.sems.length)), ((1, 1), .v (q.1.2.h1.val q.1.2.groups.length)), ((1, 2), .v (q.1.2.h2.val q.1.2.barriers.length)), ((1, 3), .v (q.1.2.h3.val q.1.2.rooms.length)), ((1, 4), .v (q.1.2.h4.val q.1.2.threads.length))] [own q.1.2.h0 3 aL 1 q.1.2.sems, own q.1.2.h1 3 aL 1 q.1.2.groups, own q.1.2.h2 3 aL 1 q.1.2.barriers, own q.1.2.h3 3 aL 1 q.1.2.rooms, own q.1.2.h4 105 rL 1 q.1.2.threads, fO (q.1.2.threads.flatMap bW0), own y 9 pZ 1 ls],
   fun q => Ls.length - q.1.1, ⟨(0, mQ0), Nat.zero_le _, rfl, Nat.le_refl _⟩, ?_, ?_⟩
 · refine aX (.joinO [] (Gs := []) trivial rfl (.refl _)) ?_
   exact aC [95, 96, 97, 98, 99, 0, 1] zw2 zw0 zw2 zw5 zw4 rfl rfl
 rintro ⟨⟨i, p⟩, i1, i2, i3⟩
 simp only at i1 i2 i3 ⊢
 have hw0 : IntKind.i64.wrap ((i : Int) + 1) = ((i + 1 : Nat) : Int) := bA i 100 (by omega) (by omega)
 apply CaseB.mk <;> intro g
 refine CaseB.mk (fun g2 => ?_) (fun g2 => ?_)
 · rw [hw0] at g
   have hlt : i < ls.length := by have := of_decide_eq_true g; omega
   have hiL : i < Ls.length := by have := of_decide_eq_true g; have := of_decide_eq_true g2; omega
   have hst := cW0 kF iL0 Ls hiL
   rw [← i2, hLi i hiL hlt] at hst
   obtain ⟨ln, hln⟩ : ∃ ln, ln = ls[i] := ⟨_, rfl⟩
   have hll : ln.length ≤ 1000 := by rw [hln]; exact hpt _ (List.getElem_mem hlt)
   rw [← hln] at hst
   refine aF dW aA rfl rfl rfl rfl rfl ⟨rfl, rfl⟩ (bF 6 rfl) i rfl z37 (fun ad0 => ?_)
   rw [← hln]
   refine aB _ dI0 rfl rfl rfl rfl ⟨rfl, rfl⟩ (fun A w hW => (yZ ln [115, 101, 109, 115] w hll)) ?_
   rintro v L ⟨z0, n0, b0, rfl, f0, t0, rfl⟩
   refine aF dW aA rfl rfl rfl rfl rfl ⟨rfl, rfl⟩ (bF 7 rfl) i rfl z37 (fun ad1 => ?_)
   rw [← hln]
   refine aB _ dI0 rfl rfl rfl rfl ⟨rfl, rfl⟩ (fun A w hW => (yZ ln [103, 114, 111, 117, 112, 115] w hll)) ?_
   rintro v L ⟨z1, n1, b1, rfl, f1, t1, rfl⟩
   refine aF dW aA rfl rfl rfl rfl rfl ⟨rfl, rfl⟩ (bF 8 rfl) i rfl z37 (fun ad2 => ?_)
   rw [← hln]
   refine aB _ dI0 rfl rfl rfl rfl ⟨rfl, rfl⟩ (fun A w hW => (yZ ln [98, 97, 114, 114, 105, 101, 114, 115] w hll)) ?_
   rintro v L ⟨z2, n2, b2, rfl, f2, t2, rfl⟩
   refine aF dW aA rfl rfl rfl rfl rfl ⟨rfl, rfl⟩ (bF 9 rfl) i rfl z37 (fun ad3 => ?_)
   rw [← hln]
   refine aB _ dI0 rfl rfl rfl rfl ⟨rfl, rfl⟩ (fun A w hW => (yZ ln [114, 111, 111, 109, 115] w hll)) ?_
   rintro v L ⟨z3, n3, b3, rfl, f3, t3, rfl⟩
   refine aF dW aA rfl rfl rfl rfl rfl ⟨rfl, rfl⟩ (bF 10 rfl) i rfl z37 (fun ad4 => ?_)
   rw [← hln]
   refine aB _ cl155 rfl rfl rfl rfl ⟨rfl, rfl⟩ (fun A w hW => (fC0 ln w hll)) ?_
   rintro v L ⟨z4, n4, b4, rfl, f4, t4, rfl⟩
   refine CaseB.mk (fun e0 => ?_) (fun e0 => ?_)
   · have hn : kF p.pure ln = (ProgH.pure { p with sems := n0, h0 := z0 }) := by simp only [kF, t0 e0]; rfl
     refine ⟨⟨(i + 1, { p with sems := n0, h0 := z0 }), hiL, by rw [hst, hn], show p.threads.length ≤ i + 1 by omega⟩, ?_, by simp only; omega⟩
     exact aC [4, 6, 7, 8, 9, 10, 11] zw7 zw0 zw7 zw5 zw14 rfl rfl
   refine CaseB.mk (fun e1 => ?_) (fun e1 => ?_)
   · have hn : kF p.pure ln = (ProgH.pure { p with groups := n1, h1 := z1 }) := by simp only [kF, f0 e0, t1 e1]; rfl
     refine ⟨⟨(i + 1, { p with groups := n1, h1 := z1 }), hiL, by rw [hst, hn], show p.threads.length ≤ i + 1 by omega⟩, ?_, by simp only; omega⟩
     exact aC [5, 3, 7, 8, 9, 10, 11] zw7 zw0 zw7 zw5 zw14 rfl rfl
   refine CaseB.mk (fun e2 => ?_) (fun e2 => ?_)
   · have hn : kF p.pure ln = (ProgH.pure { p with barriers := n2, h2 := z2 }) := by simp only [kF, f0 e0, f1 e1, t2 e2]; rfl
     refine ⟨⟨(i + 1, { p with barriers := n2, h2 := z2 }), hiL, by rw [hst, hn], show p.threads.length ≤ i + 1 by omega⟩, ?_, by simp only; omega⟩
     exact aC [5, 6, 2, 8, 9, 10, 11] zw7 zw0 zw7 zw5 zw14 rfl rfl
   refine CaseB.mk (fun e3 => ?_) (fun e3 => ?_)
   · have hn : kF p.pure ln = (ProgH.pure { p with rooms := n3, h3 := z3 }) := by simp only [kF, f0 e0, f1 e1, f2 e2, t3 e3]; rfl
     refine ⟨⟨(i + 1, { p with rooms := n3, h3 := z3 }), hiL, by rw [hst, hn], show p.threads.length ≤ i + 1 by omega⟩, ?_, by simp only; omega⟩
     exact aC [5, 6, 7, 1, 9, 10, 11] zw7 zw0 zw7 zw5 zw14 rfl rfl
   refine CaseB.mk (fun e4 => ?_) (fun e4 => ?_)
   · refine AllSl.mk fun b5 => ?_
     obtain ⟨x, hx⟩ : ∃ x : OpSH, x = ⟨n4, z4⟩ := ⟨_, rfl⟩
     refine bR eR 10 aA (xs := p.threads) (ys := [⟨n4, z4⟩]) rfl rfl rfl rfl rfl rfl rfl rfl rfl (by decide) ⟨rfl, rfl⟩ rfl z31 z37 z37 (fun z5 => ?_)
     rw [← hx]
     have hn : kF p.pure ln = (ProgH.pure { p with threads := p.threads ++ [x], h4 := z5 }) := by simp only [kF, f0 e0, f1 e1, f2 e2, f3 e3, t4 e4]; subst hx; simp [ProgH.pure]
     refine ⟨⟨(i + 1, { p with threads := p.threads ++ [x], h4 := z5 }), hiL, by rw [hst, hn], by simp; omega⟩, ?_, by simp only; omega⟩
     refine aX (.joinO [2, 11] (Gs := [[_], _]) z108 rfl (G := (p.threads ++ [x]).flatMap bW0) (by subst hx; rw [List.flatMap_append]; exact (List.Perm.of_eq (by simp [bW0])).trans List.perm_append_comm)) ?_
     exact aC [7, 8, 9, 10, 1, 0, 11] zw7 zw0 zw7 zw5 zw14 rfl rfl
   have hn : kF p.pure ln = p.pure := by simp only [kF, f0 e0, f1 e1, f2 e2, f3 e3, f4 e4]
   refine ⟨⟨(i + 1, p), hiL, by rw [hst, hn], show p.threads.length ≤ i + 1 by omega⟩, ?_, by simp only; omega⟩
   exact aC [5, 6, 7, 8, 9, 10, 11] zw7 zw0 zw7 zw5 zw14 rfl rfl
 have hie : i = Ls.length := by have := of_decide_eq_false g2; omega
 rotate_left
 have hie : i = Ls.length := by rw [hw0] at g; have := of_decide_eq_false g; omega
 rotate_left
 all_goals
   rw [hie, List.take_length, ← hM] at i2
   have sz : p.sems.length ≤ 3 ∧ p.groups.length ≤ 3 ∧ p.barriers.length ≤ 3 ∧ p.rooms.length ≤ 3 := by
     rw [← i2] at ok; exact ⟨ok.sems.1, ok.groups.1, ok.barriers.1, ok.rooms.1⟩
   refine vO (.joinO [0, 1, 2, 3, 4, 5] (Gs := [[_], [_], [_], [_], [_], _]) ⟨.inl ⟨_, rfl, .own⟩, .inl ⟨_, rfl, .own⟩, .inl ⟨_, rfl, .own⟩, .inl ⟨_, rfl, .own⟩, .inl ⟨_, rfl, .own⟩, .inl ⟨_, rfl, .o⟩, trivial⟩ rfl (G := bD p) (.of_eq (by simp [bD, oY, jN]))) ?_
   refine aB _ jH0 rfl rfl rfl rfl ⟨rfl, rfl⟩ (fun A w hW => kO p w ⟨hW.get 0 rfl (.O_R fun _ h => h), trivial⟩ ⟨by omega, by omega, by omega, by omega⟩) ?_
   rintro v L ⟨b0, rfl, hb0, rfl⟩
   rw [i2] at hb0
   refine CaseB.mk (fun g3 => by rw [hb0.2 ok] at g3; cases g3) (fun _ => ?_)
   refine aB _ cl156 rfl rfl rfl rfl ⟨rfl, rfl⟩ (fun A w hW => (fF0 p w ⟨hW.get 0 rfl (.O_R fun _ h => h), trivial⟩ (by rw [i2]; exact ok))) ?_
   rintro v L ⟨rfl, rfl⟩
   rw [i2, hf]
   refine bJ rfl rfl rfl ⟨rfl, rfl⟩ (.bool (t != t)) (fun w => aO w) (fun w => pQ w) ?_
   refine CaseB.mk (fun g4 => by simp at g4) (fun _ => ?_)
   exact bY [0] ⟨p, rfl, i2, rfl⟩ z118 rfl ⟨rfl, trivial⟩ (fun _ => rfl)
theorem of_c (g : Nat) (bi : Sl) (rb : List UInt8) (p : Nat) (i : Sl) (xs : List Str) (w : World) (hg : Blk w g 183 (kA bi rb p)) (h : AtP w g [slo bi eI 1 rb, slo i pZ 1 xs]) (hb : rb.length ≤ 2000) (hp : p < 1000000000) (h0 : 0 < xs.length) :
   Calls Tryz.prog 137 #[.pointer (some ⟨g, 0, none⟩), i.val xs.length] w (uG w g 183 2 fun v cs L => ∃ x : Str, v = .string (bs x) ∧ x ∈ xs ∧ cs = kA bi rb (p + 1) ∧ L = []) := by
 refine rE Tryz.func137 rfl aA w _ rfl _ rfl _ 183 _ 2 rfl hg _ h ⟨rfl, rfl, rfl, rfl, trivial⟩ _ (by decide) ?_
 refine bH _ rC rfl rfl rfl rfl ⟨rfl, rfl⟩ rfl rfl (fun A w ga hga hW hblk => (iQ ga bi rb p xs.length w hblk ⟨z29, trivial⟩ hb hp)) ?_
 rintro v cs L ⟨k, rfl, hk, _, rfl, rfl⟩
 have hlt : k < xs.length := by have := hk (by omega); omega
 refine aF dW aA rfl rfl rfl rfl rfl ⟨rfl, rfl⟩ z31 k rfl z37 (fun ad => ?_)
 exact jE [] ⟨_, rfl, List.getElem_mem hlt, rfl, rfl⟩ rfl rfl trivial rfl trivial (fun _ => rfl)
theorem fN0 (w : World) : Calls Tryz.prog 138 #[] w (Ret w fun v L => ∃ y : Sl, v = y.val samplesL.length ∧ L = [own y 9 pZ 1 samplesL]) := by
 refine lQ0 Tryz.func138 rfl aA w _ rfl _ rfl [] trivial trivial  ?_
 refine AllSl.mk fun y => ?_
 exact bY [0] ⟨y, rfl, rfl⟩ z118 rfl ⟨rfl, trivial⟩ (fun _ => rfl)
theorem op6_c (g : Nat) (bi : Sl) (rb : List UInt8) (p : Nat) (q : ProgH) (w : World) (hg : Blk w g 183 (kA bi rb p)) (h : AtP w g [slo bi eI 1 rb, fR (bD q)]) (hb : rb.length ≤ 2000) (hp : p < 1000000) :
   Calls Tryz.prog 139 #[.pointer (some ⟨g, 0, none⟩), eJ q] w (uG w g 183 2 fun v cs L => ∃ (o : Op) (p2 : Nat), v = .agg (cOp o).toArray ∧ OpOk q.pure o ∧ cs = kA bi rb p2 ∧ p2 ≤ p + 4 ∧ L = []) := by
 refine rE Tryz.func139 rfl aA w _ rfl _ rfl _ 183 _ 2 rfl hg _ h ⟨rfl, rfl, rfl, rfl, trivial⟩ _ (by decide) ?_
 refine AllSl.mk fun l1 => ?_
 refine bH _ nL rfl rfl rfl rfl ⟨rfl, rfl⟩ rfl rfl (fun A w ga hga hW hblk => (iR ga bi rb _ _ [1, 2, 3, 4, 5, 6, 7, 8, 9, 10, 1, 2, 3] w hblk ⟨z29, z29, trivial⟩ hb (by omega) (by decide))) ?_
 rintro v cs L ⟨k, rfl, _, rfl, rfl⟩
 refine bH _ rC rfl rfl rfl rfl ⟨rfl, rfl⟩ rfl rfl (fun A w ga hga hW hblk => (iQ ga bi rb _ _ w hblk ⟨z29, trivial⟩ hb (by omega))) ?_
 rintro v cs L ⟨on, rfl, _, _, rfl, rfl⟩
 refine CaseB.mk (fun e2 => ?_) (fun e2 => ?_)
 refine CaseB.mk (fun _ => ?_) (fun h => by rw [e2] at h; cases h)
 refine AllSl.mk fun l2 => ?_
 refine bH _ nL rfl rfl rfl rfl ⟨rfl, rfl⟩ rfl rfl (fun A w ga hga hW hblk => (iR ga bi rb _ _ [1, 1, 2] w hblk ⟨z29, z29, trivial⟩ hb (by omega) (by decide))) ?_
 rintro v cs L ⟨a, rfl, _, rfl, rfl⟩
 rotate_left
 refine CaseB.mk (fun e3 => ?_) (fun e3 => ?_)
 refine AllSl.mk fun l2 => ?_
 refine bH _ nL rfl rfl rfl rfl ⟨rfl, rfl⟩ rfl rfl (fun A w ga hga hW hblk => (iR ga bi rb _ _ [1, 1, 2] w hblk ⟨z29, z29, trivial⟩ hb (by omega) (by decide))) ?_
 rintro v cs L ⟨a, rfl, _, rfl, rfl⟩
 rotate_left
 refine CaseB.mk (fun e5 => ?_) (fun e5 => ?_)
 refine AllSl.mk fun l2 => ?_
 refine bH _ nL rfl rfl rfl rfl ⟨rfl, rfl⟩ rfl rfl (fun A w ga hga hW hblk => (iR ga bi rb _ _ [-1, 1, -2] w hblk ⟨z29, z29, trivial⟩ hb (by omega) (by decide))) ?_
 rintro v cs L ⟨a, rfl, _, rfl, rfl⟩
 rotate_left
 refine CaseB.mk (fun e1 => ?_) (fun e1 => ?_)
 refine CaseB.mk (fun _ => ?_) (fun h => by rw [e1] at h; cases h)
 refine AllSl.mk fun l2 => ?_
 refine bH _ nL rfl rfl rfl rfl ⟨rfl, rfl⟩ rfl rfl (fun A w ga hga hW hblk => (iR ga bi rb _ _ [7, 1, 2, 99] w hblk ⟨z29, z29, trivial⟩ hb (by omega) (by decide))) ?_
 rintro v cs L ⟨a, rfl, _, rfl, rfl⟩
 rotate_left
 refine CaseB.mk (fun e4 => ?_) (fun e4 => ?_)
 refine CaseB.mk (fun _ => ?_) (fun h => by rw [e4] at h; cases h)
 refine AllSl.mk fun l2 => ?_
 refine bH _ nL rfl rfl rfl rfl ⟨rfl, rfl⟩ rfl rfl (fun A w ga hga hW hblk => (iR ga bi rb _ _ [7, 1, 2, 99] w hblk ⟨z29, z29, trivial⟩ hb (by omega) (by decide))) ?_
 rintro v cs L ⟨a, rfl, _, rfl, rfl⟩
 rotate_left
 refine CaseB.mk (fun e8 => ?_) (fun e8 => ?_)
 refine AllSl.mk fun l2 => ?_
 refine bH _ nL rfl rfl rfl rfl ⟨rfl, rfl⟩ rfl rfl (fun A w ga hga hW hblk => (iR ga bi rb _ _ [7, 1, 2, 99] w hblk ⟨z29, z29, trivial⟩ hb (by omega) (by decide))) ?_
 rintro v cs L ⟨a, rfl, _, rfl, rfl⟩
 rotate_left
 · refine aB _ bO0 rfl rfl rfl rfl ⟨rfl, rfl⟩ (fun A w hW => (iA q ⟨k, (on : Int), 0⟩ w ⟨hW.get 2 rfl (.refl _), trivial⟩)) ?_
   rintro v L ⟨b1, rfl, hb1, rfl⟩
   refine CaseB.mk (fun g1 => ?_) (fun g1 => ?_)
   · refine aB _ bO0 rfl rfl rfl rfl ⟨rfl, rfl⟩ (fun A w hW => (iA q ⟨k, 0, 0⟩ w ⟨hW.get 2 rfl (.refl _), trivial⟩)) ?_
     rintro v L ⟨b2, rfl, hb2, rfl⟩
     refine CaseB.mk (fun g2 => ?_) (fun g2 => ?_)
     · refine bH _ rC rfl rfl rfl rfl ⟨rfl, rfl⟩ rfl rfl (fun A w ga hga hW hblk => (iQ ga bi rb _ _ w hblk ⟨z29, trivial⟩ hb (by omega))) ?_
       rintro v cs L ⟨e, rfl, he, _, rfl, rfl⟩
       have he9 := he (by decide)
       exact jE [] ⟨⟨1, 0, (e : Int)⟩, _, rfl, (gW0 rfl).2 ⟨rfl, by simp [aR]; omega⟩, rfl, by omega, rfl⟩ rfl rfl trivial rfl trivial (fun _ => rfl)
     · exact jE [] ⟨⟨k, 0, 0⟩, _, rfl, hb2.1 z82, rfl, by omega, rfl⟩ rfl rfl trivial rfl trivial (fun _ => rfl)
   · have e1 : b1 = true := by simpa using g1
     refine aB _ bO0 rfl rfl rfl rfl ⟨rfl, rfl⟩ (fun A w hW => (iA q ⟨k, (on : Int), 0⟩ w ⟨hW.get 2 rfl (.refl _), trivial⟩)) ?_
     rintro v L ⟨b2, rfl, hb2, rfl⟩
     refine CaseB.mk (fun g2 => by rw [hb2.2 (hb1.1 e1)] at g2; cases g2) (fun _ => ?_)
     exact jE [] ⟨⟨k, (on : Int), 0⟩, _, rfl, hb1.1 e1, rfl, by omega, rfl⟩ rfl rfl trivial rfl trivial (fun _ => rfl)
 all_goals
   refine aB _ bO0 rfl rfl rfl rfl ⟨rfl, rfl⟩ (fun A w hW => (iA q ⟨k, (on : Int), a⟩ w ⟨hW.get 3 rfl (.refl _), trivial⟩)) ?_
   rintro v L ⟨b1, rfl, hb1, rfl⟩
   refine CaseB.mk (fun g1 => ?_) (fun g1 => ?_)
   · refine aB _ bO0 rfl rfl rfl rfl ⟨rfl, rfl⟩ (fun A w hW => (iA q ⟨k, 0, a⟩ w ⟨hW.get 3 rfl (.refl _), trivial⟩)) ?_
     rintro v L ⟨b2, rfl, hb2, rfl⟩
     refine CaseB.mk (fun g2 => ?_) (fun g2 => ?_)
     · refine bH _ rC rfl rfl rfl rfl ⟨rfl, rfl⟩ rfl rfl (fun A w ga hga hW hblk => (iQ ga bi rb _ _ w hblk ⟨z29, trivial⟩ hb (by omega))) ?_
       rintro v cs L ⟨e, rfl, he, _, rfl, rfl⟩
       have he9 := he (by decide)
       exact jE [] ⟨⟨1, 0, (e : Int)⟩, _, rfl, (gW0 rfl).2 ⟨rfl, by simp [aR]; omega⟩, rfl, by omega, rfl⟩ rfl rfl trivial rfl trivial (fun _ => rfl)
     · exact jE [] ⟨⟨k, 0, a⟩, _, rfl, hb2.1 z82, rfl, by omega, rfl⟩ rfl rfl trivial rfl trivial (fun _ => rfl)
   · have e1 : b1 = true := by simpa using g1
     refine aB _ bO0 rfl rfl rfl rfl ⟨rfl, rfl⟩ (fun A w hW => (iA q ⟨k, (on : Int), a⟩ w ⟨hW.get 3 rfl (.refl _), trivial⟩)) ?_
     rintro v L ⟨b2, rfl, hb2, rfl⟩
     refine CaseB.mk (fun g2 => by rw [hb2.2 (hb1.1 e1)] at g2; cases g2) (fun _ => ?_)
     exact jE [] ⟨⟨k, (on : Int), a⟩, _, rfl, hb1.1 e1, rfl, by omega, rfl⟩ rfl rfl trivial rfl trivial (fun _ => rfl)
def eA0 (q : ProgH) : List Fct := [own q.h0 3 aL 1 q.sems, own q.h1 3 aL 1 q.groups, own q.h2 3 aL 1 q.barriers, own q.h3 3 aL 1 q.rooms] ++ q.threads.flatMap bW0
theorem xY (q : ProgH) : (bD q).Perm ([own q.h4 105 rL 1 q.threads] ++ eA0 q) :=
 (List.Perm.of_eq (by simp [bD, oY, jN] : bD q = [own q.h0 3 aL 1 q.sems, own q.h1 3 aL 1 q.groups, own q.h2 3 aL 1 q.barriers, own q.h3 3 aL 1 q.rooms] ++ own q.h4 105 rL 1 q.threads :: q.threads.flatMap bW0)).trans List.perm_middle
theorem iM0 (q : ProgH) (x : OpSH) (z : Sl) : ([own z 105 rL 1 (q.threads ++ [x])] ++ (eA0 q ++ [own x.q 108 cOp 3 x.m])).Perm (bD { q with threads := q.threads ++ [x], h4 := z }) := by
 refine List.Perm.trans ?_ (xY { q with threads := q.threads ++ [x], h4 := z }).symm
 exact .of_eq (by simp [eA0, bW0])
theorem kH0 (g : Nat) (bi : Sl) (rb : List UInt8) (p : Nat) (w : World) (hg : Blk w g 183 (kA bi rb p)) (h : AtP w g [slo bi eI 1 rb]) (hb : rb.length ≤ 2000) (hp : p < 100000) :
   Calls Tryz.prog 111 #[.pointer (some ⟨g, 0, none⟩)] w (uG w g 183 2 fun v cs L => ∃ (q : ProgH) (p2 : Nat), v = eJ q ∧ ProgOk q.pure ∧ cs = kA bi rb p2 ∧ p2 ≤ p + 100 ∧ L = [fO (bD q)]) := by
 refine yL Tryz.func111 rfl aA w _ rfl _ rfl _ 183 _ 2 rfl hg _ h ⟨rfl, rfl, trivial⟩ (by decide) ?_
 refine bH _ rC rfl rfl rfl rfl ⟨rfl, rfl⟩ rfl rfl (fun A w ga hga hW hblk => (iQ ga bi rb _ _ w hblk ⟨z29, trivial⟩ hb (by omega))) ?_
 rintro v cs L ⟨k0, rfl, _, _, rfl, rfl⟩
 refine CaseB.mk (fun g0 => ?_) (fun g0 => ?_)
 · refine aB _ cl138 rfl rfl rfl rfl ⟨rfl, rfl⟩ (fun A w hW => (fN0 w)) ?_
   rintro v L ⟨y, rfl, rfl⟩
   refine bH _ cl137 rfl rfl rfl rfl ⟨rfl, rfl⟩ rfl rfl (fun A w ga hga hW hblk => (of_c ga bi rb _ y samplesL w hblk ⟨z29, z29, trivial⟩ hb (by omega) (by decide))) ?_
   rintro v cs L ⟨x, rfl, hx, rfl, rfl⟩
   obtain ⟨hl, hok, hfm⟩ := cF0 x hx
   refine aB _ cl136 rfl rfl rfl rfl ⟨rfl, rfl⟩ (fun A w hW => (bB0 x w (by omega) hok hfm)) ?_
   rintro v L ⟨q, rfl, hq, rfl⟩
   exact jE [0] ⟨q, _, rfl, by rw [hq]; exact hok, rfl, by omega, rfl⟩ rfl rfl z118 rfl ⟨rfl, trivial⟩ (fun _ => rfl)
 refine AllSl.mk fun l1 => ?_
 refine bH _ nL rfl rfl rfl rfl ⟨rfl, rfl⟩ rfl rfl (fun A w ga hga hW hblk => (iR ga bi rb _ _ [1, 2, 3] w hblk ⟨z29, z29, trivial⟩ hb (by omega) (by decide))) ?_
 rintro v cs L ⟨x0, rfl, hx0, rfl, rfl⟩
 refine AllSl.mk fun a0 => ?_
 refine AllSl.mk fun l2 => ?_
 refine bH _ nL rfl rfl rfl rfl ⟨rfl, rfl⟩ rfl rfl (fun A w ga hga hW hblk => (iR ga bi rb _ _ [1, 2, 0] w hblk ⟨z29, z29, trivial⟩ hb (by omega) (by decide))) ?_
 rintro v cs L ⟨x1, rfl, hx1, rfl, rfl⟩
 refine AllSl.mk fun a1 => ?_
 refine AllSl.mk fun a2 => ?_
 refine AllSl.mk fun l3 => ?_
 refine bH _ nL rfl rfl rfl rfl ⟨rfl, rfl⟩ rfl rfl (fun A w ga hga hW hblk => (iR ga bi rb _ _ [1, 0, 2] w hblk ⟨z29, z29, trivial⟩ hb (by omega) (by decide))) ?_
 rintro v cs L ⟨x2, rfl, hx2, rfl, rfl⟩
 refine AllSl.mk fun a3 => ?_
 refine bH _ rC rfl rfl rfl rfl ⟨rfl, rfl⟩ rfl rfl (fun A w ga hga hW hblk => (iQ ga bi rb _ _ w hblk ⟨z29, trivial⟩ hb (by omega))) ?_
 rintro v cs L ⟨k1, rfl, hk1, _, rfl, rfl⟩
 have hk2 := hk1 (by decide)
 have hn0 : IntKind.i64.wrap (2 + (k1 : Int)) = ((2 + k1 : Nat) : Int) := by rw [cE] <;> omega
 have ok0 : ProgOk (Prog.mk [x0, 1] [x1] [2] [x2] [[]]) := by
   simp only [List.mem_cons, List.not_mem_nil, or_false] at hx0 hx1 hx2
   refine ⟨⟨by simp, fun x hx => ?_⟩, ⟨by simp, fun x hx => ?_⟩, ⟨by simp, fun x hx => ?_⟩, ⟨by simp, fun x hx => ?_⟩, by simp, by simp, fun t ht => ?_⟩
   · simp at hx; omega
   · simp at hx; omega
   · simp at hx; omega
   · simp at hx; omega
   · simp at ht; subst ht; exact ⟨by simp, fun o ho => by cases ho⟩
 clear hx0 hx1 hx2
 refine LoopW.mk ⟨{ u : Nat × ProgH × Nat // u.1 + u.2.1.threads.length = 2 + k1 ∧ (∀ t ∈ u.2.1.threads, t.m.length ≤ 8 ∧ ∀ o ∈ t.m, OpOk (Prog.mk [x0, 1] [x1] [2] [x2] [[]]) o) ∧ (u.2.1.sems = [x0, 1] ∧ u.2.1.groups = [x1] ∧ u.2.1.barriers = [2] ∧ u.2.1.rooms = [x2]) ∧ u.2.2 ≤ p + 5 + 20 * u.2.1.threads.length },
   fun u => .mk [(0, .p 0 0), (2, .p 1 0), (5, .p 2 0), (6, .v (.int .i64 (u.1.1 : Int)))] 3 0 [(2, 38, 5), (1, 38, 5), (0, 183, 2)] [((0, 0), .v (bi.val rb.length)), ((0, 1), .v (.int .i64 (u.1.2.2 : Int))), ((2, 0), .v (u.1.2.1.h0.val u.1.2.1.sems.length)), ((2, 1), .v (u.1.2.1.h1.val u.1.2.1.groups.length)), ((2, 2), .v (u.1.2.1.h2.val u.1.2.1.barriers.length)), ((2, 3), .v (u.1.2.1.h3.val u.1.2.1.rooms.length)), ((2, 4), .v (u.1.2.1.h4.val u.1.2.1.threads.length))] [fO (bD u.1.2.1), slo bi eI 1 rb],
   fun u => u.1.1, ⟨(2 + k1, ⟨[x0, 1], [x1], [2], [x2], [], a0, a1, a2, a3, ⟨none, 0⟩⟩, p + 5), rfl, fun t ht => (by cases ht), ⟨rfl, rfl, rfl, rfl⟩, Nat.le_refl _⟩, ?_, ?_⟩
 · refine aX (.joinO [5, 3, 2, 0, 90] (Gs := [[_], [_], [_], [_], [own ⟨none, 0⟩ 105 rL 1 ([] : List OpSH)]]) ⟨.inl ⟨_, rfl, .own⟩, .inl ⟨_, rfl, .own⟩, .inl ⟨_, rfl, .own⟩, .inl ⟨_, rfl, .own⟩, .inr ⟨Nat.le_of_ble_eq_true rfl, fun g hg => by simp only [List.mem_singleton] at hg; subst hg; exact ⟨rfl, rfl, rfl, rfl⟩⟩, trivial⟩ rfl (G := bD ⟨[x0, 1], [x1], [2], [x2], [], a0, a1, a2, a3, ⟨none, 0⟩⟩) (.of_eq rfl)) ?_
   refine aC [0, 4] ?_ ?_ ?_ ?_ ?_ rfl rfl
   · exact zw20
   · exact zw0
   · exact zw20
   · exact zw5
   · repeat (first | exact trivial | refine ⟨.inl ⟨_, rfl, (by first | rfl | ((exact congrArg (fun z => SV.v (Value.int .i64 z)) hn0)))⟩, ?_⟩ | refine ⟨.inr z111, ?_⟩)
 rintro ⟨⟨i, q, p1⟩, i1, i2, i3, i4⟩
 simp only at i1 i2 i3 i4 ⊢
 refine CaseB.mk (fun gi => ?_) (fun gi => ?_)
 · have hi : 0 < i := by have := of_decide_eq_true gi; omega
   have hwi : IntKind.i64.wrap ((i : Int) - 1) = ((i - 1 : Nat) : Int) := by rw [cE] <;> omega
   refine AllSl.mk fun z0 => ?_
   refine AllSl.mk fun l4 => ?_
   refine bH _ nL rfl rfl rfl rfl ⟨rfl, rfl⟩ rfl rfl (fun A w ga hga hW hblk => (iR ga bi rb _ _ [2, 3, 1, 4, 0] w hblk ⟨z29, z29, trivial⟩ hb (by omega) (by decide))) ?_
   rintro v cs L ⟨m, rfl, hm, rfl, rfl⟩
   have hm4 : 0 ≤ m ∧ m ≤ 4 := by simp at hm; omega
   clear hm
   refine LoopW.mk ⟨{ u : Int × Sl × List Op × Nat // 0 ≤ u.1 ∧ u.1 + u.2.2.1.length = m ∧ (∀ o ∈ u.2.2.1, OpOk q.pure o) ∧ u.2.2.2 ≤ p1 + 1 + 4 * u.2.2.1.length },
     fun u => .mk [(0, .p 0 0), (2, .p 1 0), (5, .p 2 0), (6, .v (.int .i64 (i : Int))), (7, .v (u.1.2.1.val u.1.2.2.1.length)), (8, .v (.int .i64 u.1.1))] 3 0 [(2, 38, 5), (1, 38, 5), (0, 183, 2)] [((0, 0), .v (bi.val rb.length)), ((0, 1), .v (.int .i64 (u.1.2.2.2 : Int))), ((2, 0), .v (q.h0.val q.sems.length)), ((2, 1), .v (q.h1.val q.groups.length)), ((2, 2), .v (q.h2.val q.barriers.length)), ((2, 3), .v (q.h3.val q.rooms.length)), ((2, 4), .v (q.h4.val q.threads.length))] [own u.1.2.1 108 cOp 3 u.1.2.2.1, fO (bD q), slo bi eI 1 rb],
     fun u => u.1.1.toNat, ⟨(m, z0, [], p1 + 1), hm4.1, by simp, by simp, Nat.le_refl _⟩, ?_, ?_⟩
   · exact aC [1, 2, 3] zw2 zw0 zw2 zw5 zw4 rfl rfl
   rintro ⟨⟨j, z, ops, p2⟩, j1, j2, j3, j4⟩
   simp only at j1 j2 j3 j4 ⊢
   refine CaseB.mk (fun gj => ?_) (fun gj => ?_)
   · have hj : 0 < j := by have := of_decide_eq_true gj; omega
     have hwj : IntKind.i64.wrap (j - 1) = j - 1 := by rw [cE] <;> omega
     refine bH _ cl139 rfl rfl rfl rfl ⟨rfl, rfl⟩ rfl rfl (fun A w ga hga hW hblk => (op6_c ga bi rb _ q w hblk ⟨hW.getP _ hga rfl 2 rfl (.refl _), hW.getP _ hga rfl 1 rfl (.O_R fun _ h => h), trivial⟩ hb (by omega))) ?_
     rintro v cs L ⟨o, p3, rfl, ho, rfl, hp3, rfl⟩
     refine AllSl.mk fun b => ?_
     refine bR oX 1 aA (xs := ops) (ys := [o]) rfl rfl rfl rfl rfl rfl rfl rfl rfl (by decide) ⟨rfl, rfl⟩ rfl z31 z37 z37 (fun z3 => ?_)
     refine ⟨⟨(j - 1, z3, ops ++ [o], p3), show 0 ≤ j - 1 by omega, by simp; omega, fun o' ho' => ?_, by simp; omega⟩, ?_, by simp only; omega⟩
     · rcases List.mem_append.1 ho' with h | h
       · exact j3 _ h
       · simp only [List.mem_singleton] at h; subst h; exact ho
     · exact aC [0, 2, 3] zw6 zw0 zw6 zw5 zw13 rfl rfl
   refine AllSl.mk fun b => ?_
   refine vO (.splitO 2 (L := [own q.h4 105 rL 1 q.threads]) (G' := eA0 q) rfl (xY q)) ?_
   obtain ⟨x, hx⟩ : ∃ x : OpSH, x = ⟨ops, z⟩ := ⟨_, rfl⟩
   refine bR eR 0 aA (xs := q.threads) (ys := [⟨ops, z⟩]) rfl rfl rfl rfl rfl rfl rfl rfl rfl (by decide) ⟨rfl, rfl⟩ rfl z31 z37 z37 (fun z5 => ?_)
   rw [← hx]
   refine ⟨⟨(i - 1, { q with threads := q.threads ++ [x], h4 := z5 }, p2), by simp; omega, fun t ht => ?_, i3, by simp; omega⟩, ?_, by simp only; omega⟩
   · have hq : q.pure = ⟨[x0, 1], [x1], [2], [x2], q.threads.map (·.m)⟩ := by simp [ProgH.pure, i3.1, i3.2.1, i3.2.2.1, i3.2.2.2]
     rcases List.mem_append.1 ht with ht | ht
     · exact i2 t ht
     · simp only [List.mem_singleton] at ht
       rw [ht, hx]
       exact ⟨by show ops.length ≤ 8; omega, fun o ho => by have := j3 o ho; rw [hq] at this; exact this⟩
   · refine aX (.joinO [0, 1, 3] (Gs := [[_], _, [_]]) ⟨.inl ⟨_, rfl, .own⟩, .inl ⟨_, rfl, .o⟩, .inl ⟨_, rfl, .own⟩, trivial⟩ rfl (G := bD { q with threads := q.threads ++ [x], h4 := z5 }) (by subst hx; exact iM0 q _ z5)) ?_
     exact aC [0, 2] zw9 zw0 zw9 zw5 zw22 rfl rfl
 have hi : i = 0 := by have := of_decide_eq_false gi; omega
 have hq : q.pure = ⟨[x0, 1], [x1], [2], [x2], q.threads.map (·.m)⟩ := by simp [ProgH.pure, i3.1, i3.2.1, i3.2.2.1, i3.2.2.2]
 have hops : ∀ t ∈ q.threads.map (·.m), t.length ≤ 8 ∧ ∀ o ∈ t, OpOk (Prog.mk [x0, 1] [x1] [2] [x2] [[]]) o := fun t ht => by
   obtain ⟨t', ht', rfl⟩ := List.mem_map.1 ht
   exact i2 t' ht'
 have hl : (q.threads.map (·.m)).length = 2 + k1 := by rw [List.length_map]; omega
 have ok : ProgOk q.pure := by
   rw [hq]
   exact ⟨ok0.sems, ok0.groups, ok0.barriers, ok0.rooms, by show 1 ≤ (q.threads.map (·.m)).length; omega, by show (q.threads.map (·.m)).length ≤ 4; omega, hops⟩
 exact jE [0] ⟨q, _, rfl, ok, rfl, by omega, rfl⟩ rfl rfl z118 rfl ⟨rfl, trivial⟩ (fun _ => rfl)
theorem sI (m : Sem) (q : Sl) (w : World) (h : At w [slo q dL 2 m.queue]) (hb : m.queue.length ≤ 1048576) :
   Calls Tryz.prog 142 #[rK m q] w (Ret w fun v L => ∃ y : Sl, v = rK m y ∧ L = [own y 161 dL 2 m.queue]) := by
 refine bU Tryz.func142 rfl aA w _ rfl _ rfl _ h ⟨rfl, rfl, trivial⟩ _ (by decide) ?_
 refine aH aA z88 z88 z88 200 [((0, 0), .v (.int .i64 m.free)), ((0, 1), .v (.int .i64 m.limit)), ((0, 2), .v (q.val m.queue.length))] [0] [_] z102 z113 ⟨rfl, trivial⟩ rfl ?_
 repeat' ((conv => whnf); (first
   | refine BothW.mk ?_ ?_
   | refine AllSl.mk fun y => ?_
   | (refine pM rfl rfl ?_; refine oV (ti := aZ tab) cW aA (xs := ([] : List Waiter)) rfl rfl rfl rfl rfl rfl rfl rfl rfl (by decide) ⟨rfl, rfl⟩ z35 z31 z37 z37 z86 (fun y => ?_))
   | fail))
 exact bY [0] ⟨_, rfl, rfl⟩ z118 rfl ⟨rfl, trivial⟩ (fun _ => rfl)
theorem wK (m : Once) (q : Sl) (w : World) (h : At w [slo q aL 1 m.waits]) (hb : m.waits.length ≤ 1048576) :
   Calls Tryz.prog 143 #[lV m q] w (Ret w fun v L => ∃ y : Sl, v = lV m y ∧ L = [own y 3 aL 1 m.waits]) := by
 refine bU Tryz.func143 rfl aA w _ rfl _ rfl _ h ⟨rfl, rfl, trivial⟩ _ (by decide) ?_
 refine aH aA z88 z88 z88 200 [((0, 0), .v (.int .i64 m.state)), ((0, 1), .v (.int .i64 m.owner)), ((0, 2), .v (.int .i64 m.value)), ((0, 3), .v (q.val m.waits.length))] [0] [_] z98 z110 ⟨rfl, trivial⟩ rfl ?_
 repeat' ((conv => whnf); (first
   | refine BothW.mk ?_ ?_
   | refine AllSl.mk fun y => ?_
   | (refine pM rfl rfl ?_; refine oV (ti := aZ tab) aI aA (xs := ([] : List Int)) rfl rfl rfl rfl rfl rfl rfl rfl rfl (by decide) ⟨rfl, rfl⟩ z35 z31 z37 z37 z86 (fun y => ?_))
   | fail))
 exact bY [0] ⟨_, rfl, rfl⟩ z118 rfl ⟨rfl, trivial⟩ (fun _ => rfl)
theorem cX0 (m : Sem) (q : Sl) (t n : Int) (w : World) (h : At w [slo q dL 2 m.queue]) (ok : SemOk m) (ht : aW t = true) (hn : t ∉ m.queue.map (·.t)) (h1 : 1 ≤ n) (h2 : n ≤ m.limit) :
   Calls Tryz.prog 169 #[rK m q, .int .i64 t, .int .i64 n] w (Ret w (AcqR (m.acquire t n))) := by
 have hb := ok.q6
 have l9 := ok.l9
 have fl := ok.fl
 refine mF Tryz.func169 rfl aA w _ rfl _ rfl _ h ⟨rfl, rfl, trivial⟩ _ _ _ (by decide) ?_
 refine aB _ lW0 rfl rfl rfl rfl ⟨rfl, rfl⟩ (fun A w hW => pC m q w ⟨z30, trivial⟩ (by omega)) ?_
 rintro v L ⟨b, rfl, hbb, rfl⟩
 obtain rfl : b = true := hbb.2 ok
 refine CaseB.mk (fun g => by simp at g) (fun _ => ?_)
 refine aB _ oS rfl rfl rfl rfl ⟨rfl, rfl⟩ (fun A w hW => eC _ w) ?_
 rintro v L ⟨rfl, rfl⟩
 refine CaseB.mk (fun g => by rw [ht] at g; simp at g) (fun _ => ?_)
 refine CaseB.mk (fun g => by have g' := of_decide_eq_true g; omega) (fun _ => ?_)
 refine CaseB.mk (fun g => by have g' := of_decide_eq_true g; omega) (fun _ => ?_)
 refine aB _ kR0 rfl rfl rfl rfl ⟨rfl, rfl⟩ (fun A w hW => aR0 q m.queue t w ⟨z30, trivial⟩ (by omega)) ?_
 rintro v L ⟨a, rfl, ha, rfl⟩
 have ha0 : ¬ 0 ≤ a := fun h => hn ((dU _ _).1 (ha ▸ h))
 refine CaseB.mk (fun g => by have g' := of_decide_eq_true g; exact (ha0 g').elim) (fun _ => ?_)
 refine aB _ dF0 rfl rfl rfl rfl ⟨rfl, rfl⟩ (fun A w hW => sI m q w ⟨z30, trivial⟩ (by omega)) ?_
 rintro v L ⟨y, rfl, rfl⟩
 have hac : ¬ (m.queue = [] ∧ n ≤ m.free) → m.acquire t n = ({ m with queue := m.queue ++ [⟨t, n⟩] }, false) := fun h => by rw [Sem.acquire, if_neg h]
 apply CaseB.mk <;> intro g
 · have hq : m.queue = [] := List.eq_nil_of_length_eq_zero (by have g' := of_decide_eq_true g; omega)
   apply CaseB.mk <;> intro g
   · have hf : n ≤ m.free := by simpa using g
     have hw := wH (a := m.free) (b := n) (by omega) (by omega)
     have e : m.acquire t n = ({ m with free := m.free - n }, true) := by rw [Sem.acquire, if_pos ⟨hq, hf⟩]
     rw [e]
     exact bY [0] ⟨y, rfl, rfl⟩ ⟨.inl ⟨_, rfl, (by first | rfl | ((simp only [hw, hD, SV.den, rK]; rfl)))⟩, trivial⟩ rfl ⟨rfl, trivial⟩ (fun _ => (by first | rfl | ((simp only [hw, hD, rK]; rfl))))
   · have hf : ¬ n ≤ m.free := by simpa using g
     rw [hac fun h => hf h.2]
     refine AllSl.mk fun z => ?_
     refine cB cW aA (ys := [⟨t, n⟩]) rfl rfl rfl rfl rfl rfl rfl rfl rfl (by decide) ⟨rfl, rfl⟩ z35 z31 z37 z37 (fun y2 => ?_)
     exact bY [0] ⟨y2, rfl, rfl⟩ z118 rfl ⟨rfl, trivial⟩ (fun _ => rfl)
 · have hq : ¬ m.queue = [] := fun e => by rw [e] at g; simp at g
   rw [hac fun h => hq h.1]
   refine AllSl.mk fun z => ?_
   refine cB cW aA (ys := [⟨t, n⟩]) rfl rfl rfl rfl rfl rfl rfl rfl rfl (by decide) ⟨rfl, rfl⟩ z35 z31 z37 z37 (fun y2 => ?_)
   exact bY [0] ⟨y2, rfl, rfl⟩ z118 rfl ⟨rfl, trivial⟩ (fun _ => rfl)
structure HandZ (f0 : Int) (Q : List Waiter) where
 f : Int
 R : List Waiter
 G : List Int
 q : Sl
 y : Sl
 h : dZ f0 Q = ((dZ f R).1, G ++ (dZ f R).2.1, (dZ f R).2.2)
 l0 : 0 ≤ f
 l1 : f ≤ f0
 c : ∀ x ∈ R, 1 ≤ x.n
 n : R.length + G.length = Q.length
theorem fO0 (m : Sem) (q : Sl) (w : World) (h : At w [slo q dL 2 m.queue]) (hb : m.queue.length ≤ 100) (hf0 : 0 ≤ m.free) (hf9 : m.free ≤ 100) (hc : ∀ x ∈ m.queue, 1 ≤ x.n) :
   Calls Tryz.prog 180 #[rK m q] w (Ret w fun v L => ∃ y z : Sl, v = .tuple #[rK ⟨(dZ m.free m.queue).1, m.limit, (dZ m.free m.queue).2.2⟩ y, z.val (dZ m.free m.queue).2.1.length] ∧ L = [own y 161 dL 2 (dZ m.free m.queue).2.2, own z 3 aL 1 (dZ m.free m.queue).2.1]) := by
 refine bU Tryz.func180 rfl aA w _ rfl _ rfl _ h ⟨rfl, rfl, trivial⟩ _ (by decide) ?_
 refine aB _ dF0 rfl rfl rfl rfl ⟨rfl, rfl⟩ (fun A w hW => sI m q w ⟨z30, trivial⟩ (by omega)) ?_
 rintro v L ⟨y1, rfl, rfl⟩
 refine AllSl.mk fun z0 => ?_
 refine LoopW.mk ⟨HandZ m.free m.queue,
   fun y => .mk [(2, .p 1 0), (4, .p 2 0), (5, .v (y.y.val y.G.length))] 3 0 [(1, 85, 3), (2, 85, 3)] [((2, 0), .v (.int .i64 y.f)), ((2, 1), .v (.int .i64 m.limit)), ((2, 2), .v (y.q.val y.R.length))] [own y.q 161 dL 2 y.R, own y.y 3 aL 1 y.G],
   fun y => y.R.length, ⟨m.free, m.queue, [], y1, z0, by simp, hf0, by omega, hc, by simp⟩, ?_, ?_⟩
 · exact aC [1, 0] zw2 zw0 zw2 zw5 zw4 rfl rfl
 · rintro ⟨f, R, G, q, y, hh, l0, l1, hcR, hn⟩
   simp only
   have fin : (¬ ∃ h0 : 0 < R.length, R[0].n ≤ f) → dZ m.free m.queue = (f, G, R) := fun hn => by
     rw [hh, iD0 (fun h0 hle => hn ⟨h0, hle⟩)]; simp
   refine aH aA z88 z88 z88 200 [((2, 0), .v (.int .i64 f)), ((2, 2), .v (q.val R.length))] [0] [_] z107 z116 ⟨rfl, trivial⟩ rfl ?_
   refine CaseB.mk (fun h1 => ?_) (fun h1 => ?_)
   · have h0 : 0 < R.length := by simpa using h1
     refine bM (ti := aZ tab) cW aA rfl rfl rfl rfl rfl ⟨rfl, rfl⟩ (aN 0 rfl (Rd.own (o := false) (o' := false))) 0 rfl z37 (fun ad => ?_)
     refine CaseB.mk (fun h2 => ?_) (fun h2 => ?_)
     · have hle : R[0].n ≤ f := by simpa using h2
       have he := fI0 h0 hle
       have hw := wH (a := f) (b := R[0].n) (by omega) (by have := hcR R[0] (List.getElem_mem h0); omega)
       have hn1 := hcR R[0] (List.getElem_mem h0)
       refine aH aA z88 z88 z88 200 [((2, 2), .v (q.val R.length))] [0] [_] z117 z120 ⟨rfl, trivial⟩ rfl ?_
       refine bM (ti := aZ tab) cW aA rfl rfl rfl rfl rfl ⟨rfl, rfl⟩ (aN 0 rfl (Rd.own (o := false) (o' := false))) 0 rfl z37 (fun ad => ?_)
       refine aF cW aA rfl rfl rfl rfl rfl ⟨rfl, rfl⟩ (aN 0 rfl (Rd.own (o := false) (o' := false))) 0 rfl z37 (fun ad2 => ?_)
       refine AllSl.mk fun z1 => ?_
       refine cB aI aA (xs := G) (ys := [R[0].t]) rfl rfl rfl rfl rfl rfl rfl rfl rfl (by decide) ⟨rfl, rfl⟩ z35 z31 z37 z37 (fun y2 => ?_)
       refine AllSl.mk fun z2 => ?_
       refine mX aA rfl rfl rfl rfl ⟨rfl, rfl⟩ rfl rfl z31 (1) (R.length) ((R.drop 1)).length rfl rfl z37 z37 z37 ?_
       refine cB cW aA (xs := []) rfl rfl rfl rfl rfl rfl rfl rfl rfl (by decide) ⟨rfl, rfl⟩ z35 (vH cW 1 (by omega) z31) z37 z37 (fun q2 => ?_)
       refine ⟨⟨f - R[0].n, R.drop 1, G ++ [R[0].t], q2, y2, by rw [hh, he]; simp, by omega, by omega, fun x hx => hcR x (List.mem_of_mem_drop hx), by simp; omega⟩, ?_, by simp; omega⟩
       exact aC [0, 1] zw1 zw0 zw1 zw5 zw3 rfl rfl
     · have hle : ¬ R[0].n ≤ f := by simpa using h2
       have he := fin fun ⟨_, h⟩ => hle h
       rw [he]
       exact bY [0, 1] ⟨q, y, rfl, rfl⟩ z109 rfl ⟨rfl, rfl, trivial⟩ (fun _ => rfl)
   · have h0 : ¬ 0 < R.length := by simpa using h1
     have he := fin fun ⟨h, _⟩ => h0 h
     rw [he]
     exact bY [0, 1] ⟨q, y, rfl, rfl⟩ z109 rfl ⟨rfl, rfl, trivial⟩ (fun _ => rfl)
theorem wL (m : Sem) (q : Sl) (n : Int) (w : World) (h : At w [slo q dL 2 m.queue]) (ok : SemOk m) (h1 : 1 ≤ n) (h2 : n ≤ m.limit) :
   Calls Tryz.prog 170 #[rK m q, .int .i64 n] w (Ret w (RelR (m.release n))) := by
 have hb := ok.q6
 have l9 := ok.l9
 have fl := ok.fl
 have f0 := ok.f0
 refine cN Tryz.func170 rfl aA w _ rfl _ rfl _ h ⟨rfl, rfl, trivial⟩ _ _ (by decide) ?_
 refine aB _ lW0 rfl rfl rfl rfl ⟨rfl, rfl⟩ (fun A w hW => pC m q w ⟨z30, trivial⟩ (by omega)) ?_
 rintro v L ⟨b, rfl, hbb, rfl⟩
 obtain rfl : b = true := hbb.2 ok
 refine CaseB.mk (fun g => by simp at g) (fun _ => ?_)
 refine CaseB.mk (fun g => by have g' := of_decide_eq_true g; omega) (fun _ => ?_)
 have hw := wH (a := m.limit) (b := m.free) (by omega) (by omega)
 apply CaseB.mk <;> intro g
 · rw [hw] at g
   have hn : ¬ n ≤ m.limit - m.free := by have g' := of_decide_eq_true g; omega
   rw [Sem.release, if_neg hn]
   refine AllSl.mk fun z => ?_
   exact aG ⟨nI, z, rfl, rfl⟩ (fun _ => rfl)
 rw [hw] at g
 have hn : n ≤ m.limit - m.free := by have g' := of_decide_eq_false g; omega
 rw [Sem.release, if_pos hn]
 refine aB _ dF0 rfl rfl rfl rfl ⟨rfl, rfl⟩ (fun A w hW => sI m q w ⟨z30, trivial⟩ (by omega)) ?_
 rintro v L ⟨y, rfl, rfl⟩
 have hw2 := iC0 (a := m.free) (b := n) (by omega) (by omega)
 refine aB _ cl180 rfl rfl rfl rfl ⟨rfl, rfl⟩ (fun A w hW => fO0 ⟨IntKind.i64.wrap (m.free + n), m.limit, m.queue⟩ y w ⟨z30, trivial⟩ (by simp only; omega) (by simp only [hw2]; omega) (by simp only [hw2]; omega) (fun x hx => (ok.cnt x hx).1)) ?_
 simp only [hw2]
 rintro v L ⟨q2, z, rfl, rfl⟩
 exact bY [0, 1] ⟨q2, z, rfl, rfl⟩ z109 rfl ⟨rfl, rfl, trivial⟩ (fun _ => rfl)
theorem iN0 (m : Once) (q : Sl) (t : Int) (w : World) (h : At w [slo q aL 1 m.waits]) (ok : cS m) (ht : aW t = true) (hn : t ∉ m.waits) (ho : m.state = 1 → m.owner ≠ t) :
   Calls Tryz.prog 145 #[lV m q, .int .i64 t] w (Ret w (EntR (m.enter t))) := by
 have hb := eD ok
 refine cN Tryz.func145 rfl aA w _ rfl _ rfl _ h ⟨rfl, rfl, trivial⟩ _ _ (by decide) ?_
 refine aB _ jK0 rfl rfl rfl rfl ⟨rfl, rfl⟩ (fun A w hW => kN m q w ⟨z30, trivial⟩ (by omega)) ?_
 rintro v L ⟨b, rfl, hbb, rfl⟩
 obtain rfl : b = true := hbb.2 ok
 refine CaseB.mk (fun g => by simp at g) (fun _ => ?_)
 refine aB _ oS rfl rfl rfl rfl ⟨rfl, rfl⟩ (fun A w hW => eC _ w) ?_
 rintro v L ⟨rfl, rfl⟩
 refine CaseB.mk (fun g => by rw [ht] at g; simp at g) (fun _ => ?_)
 refine aB _ gK0 rfl rfl rfl rfl ⟨rfl, rfl⟩ (fun A w hW => wK m q w ⟨z30, trivial⟩ (by omega)) ?_
 rintro v L ⟨y, rfl, rfl⟩
 apply CaseB.mk <;> intro g
 · have e0 : m.state = 0 := by simpa using g
   rw [Once.enter, if_pos e0]
   exact bY [99] ⟨nI, rfl, rfl⟩ z104 rfl ⟨rfl, trivial⟩ (fun _ => rfl)
 have e0 : ¬ m.state = 0 := by simpa using g
 rw [Once.enter, if_neg e0]
 apply CaseB.mk <;> intro g
 · have e2 : m.state = 2 := by simpa using g
   rw [if_neg (by omega)]
   exact bY [0] ⟨y, rfl, rfl⟩ z118 rfl ⟨rfl, trivial⟩ (fun _ => rfl)
 have e2 : ¬ m.state = 2 := by simpa using g
 have e1 : m.state = 1 := by
   rcases ok with h | h | h
   · exact (e0 h.1).elim
   · exact h.1
   · exact (e2 h.1).elim
 rw [if_pos e1]
 have hno := ho e1
 refine CaseB.mk (fun g => by exact (hno (by have g' : t = m.owner := z85; exact g'.symm)).elim) (fun _ => ?_)
 refine aB _ lO rfl rfl rfl rfl ⟨rfl, rfl⟩ (fun A w hW => iT q m.waits t w ⟨z30, trivial⟩ (by omega)) ?_
 rintro v L ⟨rfl, rfl⟩
 refine CaseB.mk (fun g => by have g' := of_decide_eq_true g; exact (hn ((dU _ _).1 g')).elim) (fun _ => ?_)
 refine AllSl.mk fun z => ?_
 refine cB aI aA (ys := [t]) rfl rfl rfl rfl rfl rfl rfl rfl rfl (by decide) ⟨rfl, rfl⟩ z35 z31 z37 z37 (fun y2 => ?_)
 exact bY [0] ⟨y2, rfl, rfl⟩ z118 rfl ⟨rfl, trivial⟩ (fun _ => rfl)
theorem fP0 (m : Once) (q : Sl) (t u : Int) (w : World) (h : At w [slo q aL 1 m.waits]) (ok : cS m) (h1 : m.state = 1) (ho : m.owner = t) (hv : aR u = true) :
   Calls Tryz.prog 146 #[lV m q, .int .i64 t, .int .i64 u] w (Ret w (FinR (m.finish t u))) := by
 have hb := eD ok
 refine mF Tryz.func146 rfl aA w _ rfl _ rfl _ h ⟨rfl, rfl, trivial⟩ _ _ _ (by decide) ?_
 refine aB _ lY0 rfl rfl rfl rfl ⟨rfl, rfl⟩ (fun A w hW => cH0 m q t w ⟨z30, trivial⟩ (by omega)) ?_
 rintro v L ⟨b, rfl, hbb, rfl⟩
 obtain rfl : b = true := hbb.2 ⟨ok, h1, ho⟩
 refine CaseB.mk (fun g => by simp at g) (fun _ => ?_)
 refine aB _ uE rfl rfl rfl rfl ⟨rfl, rfl⟩ (fun A w hW => eM _ w) ?_
 rintro v L ⟨rfl, rfl⟩
 refine CaseB.mk (fun g => by simp [hv] at g) (fun _ => ?_)
 refine AllSl.mk fun z => ?_
 refine cB aI aA (xs := []) rfl rfl rfl rfl rfl rfl rfl rfl rfl (by decide) ⟨rfl, rfl⟩ z35 z31 z37 z37 (fun y => ?_)
 exact bY [99, 0] ⟨nI, y, rfl, rfl⟩ z101 rfl ⟨rfl, rfl, trivial⟩ (fun _ => rfl)
theorem iO0 (m : Group) (q : Sl) (n : Int) (w : World) (h : At w [slo q aL 1 m.waits]) (ok : fE m) (h1 : -9 ≤ n) (h9 : n ≤ 9) :
   Calls Tryz.prog 173 #[mJ m q, .int .i64 n] w (Ret w (AddR (m.add n))) := by
 have hb := gF ok
 have hv : 0 ≤ m.count ∧ m.count ≤ 99 := by have := ok.1; simp [aR] at this; omega
 have hw : IntKind.i64.wrap (m.count + n) = m.count + n := by rw [IntKind.wrap_i64]; omega
 refine cN Tryz.func173 rfl aA w _ rfl _ rfl _ h ⟨rfl, rfl, trivial⟩ _ _ (by decide) ?_
 refine aB _ lX0 rfl rfl rfl rfl ⟨rfl, rfl⟩ (fun A w hW => mL m q w ⟨z30, trivial⟩ (by omega)) ?_
 rintro v L ⟨b, rfl, hbb, rfl⟩
 obtain rfl : b = true := hbb.2 ok
 refine CaseB.mk (fun g => by simp at g) (fun _ => ?_)
 refine CaseB.mk (fun g => by have g' := of_decide_eq_true g; omega) (fun _ => ?_)
 refine CaseB.mk (fun g => by have g' := of_decide_eq_true g; omega) (fun _ => ?_)
 refine aB _ uE rfl rfl rfl rfl ⟨rfl, rfl⟩ (fun A w hW => eM _ w) ?_
 rw [hw]
 rintro v L ⟨rfl, rfl⟩
 apply CaseB.mk <;> intro g
 · have hn : ¬ aR (m.count + n) = true := by simpa using g
   rw [Group.add, if_neg hn]
   refine AllSl.mk fun z => ?_
   exact aG ⟨nI, z, rfl, rfl⟩ (fun _ => rfl)
 have hn : aR (m.count + n) = true := by simpa using g
 rw [Group.add, if_pos hn]
 apply CaseB.mk <;> intro g
 · rw [hw] at g
   have h0 : m.count + n = 0 := by simpa using g
   rw [if_pos h0]
   refine AllSl.mk fun z => ?_
   refine cB aI aA (xs := []) rfl rfl rfl rfl rfl rfl rfl rfl rfl (by decide) ⟨rfl, rfl⟩ z35 z31 z37 z37 (fun y => ?_)
   exact bY [99, 0] ⟨nI, y, rfl, rfl⟩ z101 rfl ⟨rfl, rfl, trivial⟩ (fun _ => rfl)
 rw [hw] at g
 have h0 : ¬ m.count + n = 0 := by simpa using g
 rw [if_neg h0]
 refine AllSl.mk fun z => ?_
 refine cB aI aA (xs := []) rfl rfl rfl rfl rfl rfl rfl rfl rfl (by decide) ⟨rfl, rfl⟩ z35 z31 z37 z37 (fun y => ?_)
 refine AllSl.mk fun z2 => ?_
 exact bY [1, 0] ⟨y, z2, rfl, rfl⟩ ⟨.inl ⟨_, rfl, z61⟩, .inl ⟨_, rfl, z61⟩, trivial⟩ rfl ⟨rfl, rfl, trivial⟩ (fun _ => z61)
theorem kI0 (m : Group) (q : Sl) (t : Int) (w : World) (h : At w [slo q aL 1 m.waits]) (ok : fE m) (ht : aW t = true) (hn : t ∉ m.waits) :
   Calls Tryz.prog 174 #[mJ m q, .int .i64 t] w (Ret w (WaiR (m.wait t))) := by
 have hb := gF ok
 refine cN Tryz.func174 rfl aA w _ rfl _ rfl _ h ⟨rfl, rfl, trivial⟩ _ _ (by decide) ?_
 refine aB _ lX0 rfl rfl rfl rfl ⟨rfl, rfl⟩ (fun A w hW => mL m q w ⟨z30, trivial⟩ (by omega)) ?_
 rintro v L ⟨b, rfl, hbb, rfl⟩
 obtain rfl : b = true := hbb.2 ok
 refine CaseB.mk (fun g => by simp at g) (fun _ => ?_)
 refine aB _ oS rfl rfl rfl rfl ⟨rfl, rfl⟩ (fun A w hW => eC _ w) ?_
 rintro v L ⟨rfl, rfl⟩
 refine CaseB.mk (fun g => by rw [ht] at g; simp at g) (fun _ => ?_)
 refine aB _ lO rfl rfl rfl rfl ⟨rfl, rfl⟩ (fun A w hW => iT q m.waits t w ⟨z30, trivial⟩ (by omega)) ?_
 rintro v L ⟨rfl, rfl⟩
 refine CaseB.mk (fun g => by have g' := of_decide_eq_true g; exact (hn ((dU _ _).1 g')).elim) (fun _ => ?_)
 refine mW Sl (fun y => .mk [(1, .v (.int .i64 t)), (2, .p 0 0), (4, .p 1 0), (7, .p 2 0)] 3 0 [(0, 88, 2), (1, 88, 2), (2, 88, 2)] [((0, 0), .v (.int .i64 m.count)), ((2, 0), .v (.int .i64 m.count)), ((2, 1), .v (y.val m.waits.length))] [own y 3 aL 1 m.waits]) ?_ ?_
 · refine aH aA z88 z88 z88 200 [((0, 0), .v (.int .i64 m.count)), ((0, 1), .v (q.val m.waits.length))] [0] [_] z107 z116 ⟨rfl, trivial⟩ rfl ?_
   repeat' ((conv => whnf); (first
     | refine BothW.mk ?_ ?_
     | refine AllSl.mk fun y => ?_
     | (refine pM rfl rfl ?_; refine oV (ti := aZ tab) aI aA (xs := ([] : List Int)) rfl rfl rfl rfl rfl rfl rfl rfl rfl (by decide) ⟨rfl, rfl⟩ z35 z31 z37 z37 z86 (fun y => ?_))
     | fail))
   all_goals
     refine ⟨y, ?_⟩
     exact aC [0] zw2 zw0 zw2 zw5 zw4 rfl rfl
 intro y
 apply CaseB.mk <;> intro g
 · have h0 : m.count = 0 := by simpa using g
   have hw0 : m.waits = [] := by
     rcases ok.2.2 with h | h
     · omega
     · exact h
   rw [Group.wait, if_pos h0]
   exact bY [0] ⟨y, rfl, rfl⟩ ⟨.inl ⟨_, rfl, z38⟩, trivial⟩ rfl ⟨rfl, trivial⟩ (fun _ => z38)
 have h0 : ¬ m.count = 0 := by simpa using g
 rw [Group.wait, if_neg h0]
 refine AllSl.mk fun z => ?_
 refine cB aI aA (ys := [t]) rfl rfl rfl rfl rfl rfl rfl rfl rfl (by decide) ⟨rfl, rfl⟩ z35 z31 z37 z37 (fun y2 => ?_)
 exact bY [0] ⟨y2, rfl, rfl⟩ z118 rfl ⟨rfl, trivial⟩ (fun _ => rfl)
theorem xZ (m : Barrier) (q : Sl) (t : Int) (w : World) (h : At w [slo q aL 1 m.waits]) (ok : dE m) (ht : aW t = true) (hn : t ∉ m.waits) :
   Calls Tryz.prog 175 #[lD m q, .int .i64 t] w (Ret w (ArrR (m.arrive t))) := by
 have hb := fZ ok
 obtain ⟨p1, p6, r0, r9, wl, dis⟩ := ok
 have hw : IntKind.i64.wrap (m.round + 1) = m.round + 1 := by rw [IntKind.wrap_i64]; omega
 refine cN Tryz.func175 rfl aA w _ rfl _ rfl _ h ⟨rfl, rfl, trivial⟩ _ _ (by decide) ?_
 refine aB _ cl95 rfl rfl rfl rfl ⟨rfl, rfl⟩ (fun A w hW => oF m q w ⟨z30, trivial⟩ (by omega)) ?_
 rintro v L ⟨b, rfl, hbb, rfl⟩
 obtain rfl : b = true := hbb.2 ⟨p1, p6, r0, r9, wl, dis⟩
 refine CaseB.mk (fun g => by simp at g) (fun _ => ?_)
 refine aB _ oS rfl rfl rfl rfl ⟨rfl, rfl⟩ (fun A w hW => eC _ w) ?_
 rintro v L ⟨rfl, rfl⟩
 refine CaseB.mk (fun g => by rw [ht] at g; simp at g) (fun _ => ?_)
 refine aB _ lO rfl rfl rfl rfl ⟨rfl, rfl⟩ (fun A w hW => iT q m.waits t w ⟨z30, trivial⟩ (by omega)) ?_
 rintro v L ⟨rfl, rfl⟩
 refine CaseB.mk (fun g => by have g' := of_decide_eq_true g; exact (hn ((dU _ _).1 g')).elim) (fun _ => ?_)
 refine AllSl.mk fun z => ?_
 refine cB aI aA (xs := []) rfl rfl rfl rfl rfl rfl rfl rfl rfl (by decide) ⟨rfl, rfl⟩ z35 z31 z37 z37 (fun y => ?_)
 refine AllSl.mk fun z2 => ?_
 refine cB aI aA (xs := m.waits) (ys := [t]) rfl rfl rfl rfl rfl rfl rfl rfl rfl (by decide) ⟨rfl, rfl⟩ z35 z31 z37 z37 (fun y2 => ?_)
 have hl : (m.waits ++ [t]).length = m.waits.length + 1 := by simp
 apply CaseB.mk <;> intro g
 · have h0 : (m.waits.length : Int) + 1 < m.parties := by have g' := of_decide_eq_true g; rw [hl] at g'; omega
   rw [Barrier.arrive, if_pos h0]
   refine AllSl.mk fun z3 => ?_
   exact bY [1, 0] ⟨y2, z3, rfl, rfl⟩ z109 rfl ⟨rfl, rfl, trivial⟩ (fun _ => rfl)
 have h0 : ¬ (m.waits.length : Int) + 1 < m.parties := by have g' := of_decide_eq_false g; rw [hl] at g'; omega
 rw [Barrier.arrive, if_neg h0]
 apply CaseB.mk <;> intro g
 · have h9 : m.round = 9999 := by simpa using g
   rw [if_pos h9]
   refine AllSl.mk fun z3 => ?_
   exact aG ⟨z3, rfl, rfl⟩ (fun _ => rfl)
 have h9 : ¬ m.round = 9999 := by simpa using g
 rw [if_neg h9]
 refine AllSl.mk fun z3 => ?_
 exact bY [0, 1] ⟨z3, y2, rfl, rfl⟩ ⟨.inl ⟨_, rfl, z60⟩, .inl ⟨_, rfl, z60⟩, trivial⟩ rfl ⟨rfl, rfl, trivial⟩ (fun _ => z60)
theorem sJ (y : StateH) (f : Int) (w : World) :
   Calls Tryz.prog 171 #[aM y, .int .i64 f] w (Ret w fun v L => v = aM { y with fault := f } ∧ L = []) := by
 refine cN Tryz.func171 rfl aA w _ rfl _ rfl [] trivial trivial _ _ (by decide) ?_
 exact aG ⟨rfl, rfl⟩ (fun _ => rfl)
def stV (y : StateH) (n m : Nat) (zs : Sl) (ln : Nat) : Value := .agg #[y.h0.val n, y.h1.val m, y.h2.val y.sems.length, y.h3.val y.onces.length, y.h4.val y.groups.length, y.h5.val y.barriers.length, y.h6.val y.chans.length, zs.val ln, .int .i64 y.fault]
theorem iY (n m : Nat) (P : ProgH) (y : StateH) (zs : Sl) (ln : Nat) (z : Sl) (who : List Int) (s : State) (w : World)
   (h : AtG w [own y.h0 3 aL 1 s.places, own y.h1 3 aL 1 s.status] [fR (bD P), slo z aL 1 who])
   (h1 : s.places.length = n) (h2 : s.status.length = m) (hm : n = m) (hn : P.threads.length = n) (hw : ∀ t ∈ who, 0 ≤ t ∧ t < n) (hl : who.length ≤ 100) (hp : ∀ a ∈ s.places, 0 ≤ a ∧ a ≤ 100) (hn4 : n ≤ 100) :
   Calls Tryz.prog 176 #[eJ P, stV y n m zs ln, z.val who.length] w (bU0 w [own y.h0 3 aL 1 s.places, own y.h1 3 aL 1 s.status]
     fun v L => v = stV y n m zs ln ∧ L = [own y.h0 3 aL 1 (onM P.pure who s).places, own y.h1 3 aL 1 (onM P.pure who s).status]) := by
 subst hm
 refine pO Tryz.func176 rfl aA w _ rfl _ rfl _ _ h ⟨rfl, rfl, rfl, rfl, trivial⟩ _ _ rfl rfl ?_
 refine LoopW.mk ⟨{ q : Nat × List Int × List Int // q.1 ≤ who.length ∧ q.2.1 = (onM P.pure (who.take q.1) s).places ∧ q.2.2 = (onM P.pure (who.take q.1) s).status },
   fun q => .mk [(2, .v (z.val who.length)), (3, .p 0 0), (4, .p 1 0), (6, .p 2 0), (7, .v (.int .i64 (q.1.1 : Int)))] 3 0 [(0, 38, 5), (1, 46, 9), (2, 46, 9)]
     [((0, 0), .v (P.h0.val P.sems.length)), ((0, 1), .v (P.h1.val P.groups.length)), ((0, 2), .v (P.h2.val P.barriers.length)), ((0, 3), .v (P.h3.val P.rooms.length)), ((0, 4), .v (P.h4.val P.threads.length)), ((1, 0), .v (y.h0.val q.1.2.1.length)), ((1, 1), .v (y.h1.val q.1.2.2.length)), ((1, 2), .v (y.h2.val y.sems.length)), ((1, 3), .v (y.h3.val y.onces.length)), ((1, 4), .v (y.h4.val y.groups.length)), ((1, 5), .v (y.h5.val y.barriers.length)), ((1, 6), .v (y.h6.val y.chans.length)), ((1, 7), .v (zs.val ln)), ((1, 8), .v (.int .i64 y.fault))]
     [own y.h0 3 aL 1 q.1.2.1, own y.h1 3 aL 1 q.1.2.2, fR (bD P), slo z aL 1 who],
   fun q => who.length - q.1.1, ⟨(0, s.places, s.status), Nat.zero_le _, rfl, rfl⟩, ?_, ?_⟩
 · refine aC [0, 1, 2, 3] ?_ ?_ ?_ ?_ ?_ rfl rfl
   · exact zw19
   · exact zw0
   · exact zw19
   · exact zw5
   · repeat (first | exact trivial | refine ⟨.inl ⟨_, rfl, (by first | rfl | ((first | (simp only [h1]; done) | (simp only [h2]; done))))⟩, ?_⟩ | refine ⟨.inr z111, ?_⟩)
 rintro ⟨⟨k, pl, st⟩, hk, hpl, hst⟩
 simp only at hk hpl hst
 have l1 : pl.length = n := by rw [hpl, (cG _ _ _).1, h1]
 have l2 : st.length = n := by rw [hst, (cG _ _ _).2, h2]
 refine CaseB.mk (fun g3 => ?_) (fun g3 => ?_)
 · have hlt : k < who.length := by simpa using g3
   have hw' := bA k _ hlt (by omega)
   obtain ⟨t0, t1⟩ := hw _ (List.getElem_mem hlt)
   obtain ⟨τ, hτ⟩ : ∃ τ : Nat, who[k] = (τ : Int) := ⟨_, (Int.toNat_of_nonneg t0).symm⟩
   have hτn : τ < n := by omega
   have hτp : τ < pl.length := by omega
   have hτs : τ < st.length := by omega
   have hτP : τ < P.threads.length := by omega
   have hb := xW P.pure (who.take k) s 100 (by omega) hp
   rw [← hpl] at hb
   have hpb := hb _ (List.getElem_mem hτp)
   have htl : ((who.take k).length : Int) ≤ 100 := by simp; omega
   have hw1 : IntKind.i64.wrap (pl[τ] + 1) = pl[τ] + 1 := by rw [IntKind.wrap_i64]; omega
   have hgo := iE0 P.pure who s hlt
   have hset : (pl.set τ (pl[τ] + 1))[τ]'(by simpa using hτp) = pl[τ] + 1 := by simp
   have hpg : (onM P.pure (who.take k) s).places.getD τ 0 = pl[τ] := by rw [← hpl, List.getD_eq_getElem?_getD, List.getElem?_eq_getElem hτp]; rfl
   have hPg : (P.pure.threads.getD τ []).length = P.threads[τ].m.length := by simp [ProgH.pure, List.getD_eq_getElem?_getD, hτP]
   have hgo1 : (onM P.pure (who.take (k + 1)) s).places = pl.set τ (pl[τ] + 1) := by rw [hgo, hτ]; simp only [goM, Int.toNat_natCast, hpg, hpl]
   have hgo2 : (onM P.pure (who.take (k + 1)) s).status = st.set τ (sD P.pure τ (pl[τ] + 1)) := by rw [hgo, hτ]; simp only [goM, Int.toNat_natCast, hpg, hst]
   refine aF aI aA rfl rfl rfl rfl rfl ⟨rfl, rfl⟩ z31 k rfl z37 (fun ad => ?_)
   refine nA 0 rfl (show 0 < pl.length by omega) fun gg hgg _ _ => ?_
   refine aH aA z88 z88 z88 200 [((1, 0), .v (y.h0.val pl.length))] [] [] z117 z120 trivial rfl ?_
   refine mI (ti := aZ tab) aA rfl rfl rfl rfl rfl ⟨rfl, rfl⟩ hgg τ hτ hτp ?_
   refine rJ (ti := aZ tab) aI 0 aA rfl rfl rfl ⟨rfl, rfl⟩ rfl hgg τ 0 rfl hτp rfl ?_
   refine mI (ti := aZ tab) aA rfl rfl rfl rfl rfl ⟨rfl, rfl⟩ hgg τ hτ hτp ?_
   refine nB (ti := aZ tab) aI 0 aA rfl rfl rfl rfl rfl rfl rfl rfl hgg τ 0 (pl[τ] + 1) rfl hτp rfl [.int .i64 (pl[τ] + 1)] (fun _ => by simp [SV.den, hw1]) rfl z86 ?_
   obtain ⟨pl2, hpl2⟩ : ∃ pl2, pl2 = pl.set τ (pl[τ] + 1) := ⟨_, rfl⟩
   have l3 : pl2.length = pl.length := by rw [hpl2, List.length_set]
   have hτ2 : τ < pl2.length := by omega
   have hg2 : pl2[τ] = pl[τ] + 1 := by simp [hpl2]
   rw [← hpl2] at hgo1 ⊢
   refine nA 1 rfl (show 0 < st.length by omega) fun gg2 hgg2 _ _ => ?_
   refine aH aA z88 z88 z88 200 [((0, 0), .v (P.h0.val P.sems.length)), ((0, 1), .v (P.h1.val P.groups.length)), ((0, 2), .v (P.h2.val P.barriers.length)), ((0, 3), .v (P.h3.val P.rooms.length)), ((0, 4), .v (P.h4.val P.threads.length)), ((1, 0), .v (y.h0.val pl.length)), ((1, 1), .v (y.h1.val st.length))] [0] [_] ⟨⟨_, rfl, rfl, z64⟩, ⟨_, rfl, rfl, z64⟩, ⟨_, rfl, rfl, z64⟩, ⟨_, rfl, rfl, z64⟩, ⟨_, rfl, rfl, z64⟩, ⟨_, rfl, rfl, z64⟩, ⟨_, rfl, rfl, z64⟩, trivial⟩ ⟨⟨_, rfl⟩, ⟨_, rfl⟩, ⟨_, rfl⟩, ⟨_, rfl⟩, ⟨_, rfl⟩, ⟨_, rfl⟩, ⟨_, rfl⟩, trivial⟩ ⟨rfl, trivial⟩ rfl ?_
   refine bM (ti := aZ tab) (xs := pl2) aI aA rfl (by rw [l3]; rfl) rfl rfl rfl ⟨rfl, rfl⟩ (aN 0 rfl (Rd.own (o := false) (o' := false))) τ hτ hτ2 (fun ad3 => ?_)
   rw [hg2]
   refine bV _ kU0 rfl rfl rfl rfl ⟨rfl, rfl⟩ (fun A w hW => aX0 P _ _ τ hτP hτ w ⟨hW.get 2 rfl (.refl _), trivial⟩) ?_
   rintro v L ⟨rfl, rfl⟩
   refine mI (ti := aZ tab) aA rfl rfl rfl rfl rfl ⟨rfl, rfl⟩ hgg2 τ hτ hτs ?_
   refine nB (ti := aZ tab) aI 1 aA rfl rfl rfl rfl rfl rfl rfl rfl hgg2 τ 0 (if pl[τ] + 1 = ((P.threads[τ]).m.length : Int) then 3 else 0) rfl hτs rfl [.int .i64 (if pl[τ] + 1 = ((P.threads[τ]).m.length : Int) then 3 else 0)] (fun _ => rfl) rfl z86 ?_
   refine ⟨⟨(k + 1, pl2, st.set τ (if pl[τ] + 1 = ((P.threads[τ]).m.length : Int) then 3 else 0)), hlt, hgo1.symm, by rw [hgo2, sD, hPg]⟩, ?_, by simp only; omega⟩
   refine aC [1, 0, 2, 3] ?_ ?_ ?_ ?_ ?_ rfl rfl
   · exact zw16
   · exact zw0
   · exact zw16
   · exact zw5
   · repeat (first | exact trivial | refine ⟨.inl ⟨_, rfl, (by first | rfl | ((first | exact congrArg (fun z => SV.v (Value.int .i64 z)) hw' | (simp only [l3]; done) | (simp only [List.length_set]; done))))⟩, ?_⟩ | refine ⟨.inr z111, ?_⟩)
 · have hge : who.length ≤ k := by simpa using g3
   rw [List.take_of_length_le hge] at hpl hst
   rw [← hpl, ← hst]
   exact iZ [0, 1] ⟨rfl, rfl⟩ ⟨.inl ⟨_, rfl, z39⟩, .inl ⟨_, rfl, z39⟩, trivial⟩ rfl ⟨rfl, rfl, trivial⟩ (fun _ => z39)
theorem jL {E : Env} {o : Oper} {Ms : List ((Nat × Nat) × SV)} {Fs : List Fct} {next : St → Prop} {T : List (Nat × SV)} {n c : Nat} {B : List (Nat × TypeId × Nat)} {M : List ((Nat × Nat) × SV)} {F : List Fct}
   (R : Value → List Fct → Prop) (ix : List Nat) {G : List Fct} {k : Call} {fo : Operand} {g : FuncId} {cap : List (Nat × Nat)} {l : List SV} {d : Nat} (hc : aD E.P g = true)
   (hop : o.op = .call k) (hk : k.callee = .value fo) (hf : aY T fo = some (.f g cap)) (ha : iK T k.args.toList = some l) (hd : Dst E o d) (hG : FK F ix G) (hok : kJ G) (hkeep : iP Fs F → ∀ L, iP Fs (L ++ hU ix 0 F))
   (hcall : ∀ A w, WD E A n B M F w → Calls E.P g ((l.map (SV.den A)) ++ cap.map (fun x => ptr A x.1 x.2)).toArray w (bU0 w G R))
   (hnext : ∀ v L, R v L → next (.mk ((d, .v v) :: T) n (c + 1) B M (L ++ hU ix 0 F))) :
   OpW (opD E o Ms Fs next T n c B M F) := by
 refine ⟨fun hkm hkf A a w hW hT => ?_⟩
 unfold Oper.wp
 rw [jD hT hc hop hk hf ha, Oper.upon_enter]
 refine (hcall A w hW).mono ?_
 rintro e w' ⟨v, L, rfl, he, hL, hR⟩
 refine ⟨A, _, n, _, B, M, _, fun _ _ => rfl, Nat.le_refl _, fun _ h => h, hkm, hkeep hkf L, hW.callG hG hok he hL, fun w2 => ?_, hnext v L hR⟩
 rw [hd.1]
 exact (hT.step w2).put (v := .v v) hd.lt trivial
def Fct.fresh : Fct → Fct
 | .sl _ i sz cs n => .sl false i sz cs n
 | .own _ i _ sz cs n => .sl false i sz cs n
 | .other _ _ foot P st => .other false false foot P st
theorem sK : ∀ {f g : Fct}, Rd f g.aged → Rd f (Fct.fresh g)
 | _, .sl .., h => ⟨h.p, h.foot⟩
 | _, .own .., h => ⟨h.p, h.foot⟩
 | _, .other .., h => ⟨h.p, h.foot⟩
abbrev fN (G : List Fct) : Fct := fB false (G.map Fct.fresh)
theorem oG (G : List Fct) : Rd (fN G) (fR G) := by
 have key : ∀ g : Fct, (∀ w, (Fct.fresh g).P w → g.aged.P w) ∧ ∀ b, g.aged.foot b → (Fct.fresh g).foot b := fun g => by
   cases g <;> exact z119
 refine ⟨fun w hw g hg => ?_, ?_⟩
 · obtain ⟨f, hf, rfl⟩ := List.mem_map.1 hg
   exact (key f).1 w (hw _ (List.mem_map_of_mem hf))
 · rintro b ⟨g, hg, hb⟩
   obtain ⟨f, hf, rfl⟩ := List.mem_map.1 hg
   exact ⟨_, List.mem_map_of_mem hf, (key f).2 b hb⟩
theorem Shift.pack {F G : List Fct} (hG : ∀ g ∈ G, ∃ f ∈ F, f.old = false ∧ Rd f g.aged) : Shift F [fN G] := by
 intro E A n B M w h
 refine ⟨h.key, h.inj, h.mem, h.a0, h.n0, h.ext, fun f hf => ?_, List.pairwise_singleton _ _⟩
 obtain rfl := List.mem_singleton.1 hf
 refine ⟨fun g' hg' => ?_, ?_, ?_⟩
 · obtain ⟨g, hg, rfl⟩ := List.mem_map.1 hg'
   obtain ⟨f, hf, _, hr⟩ := hG g hg
   exact (sK hr).p w (h.fct f hf).1
 · rintro b ⟨g', hg', hb⟩
   obtain ⟨g, hg, rfl⟩ := List.mem_map.1 hg'
   obtain ⟨f, hf, _, hr⟩ := hG g hg
   exact (h.fct f hf).2.1 b ((sK hr).foot b hb)
 · rintro _ b ⟨g', hg', hb⟩
   obtain ⟨g, hg, rfl⟩ := List.mem_map.1 hg'
   obtain ⟨f, hf, ho, hr⟩ := hG g hg
   exact (h.fct f hf).2.2 ho b ((sK hr).foot b hb)
theorem dC {F : List Fct} (y : StateH) (ho : ∀ g ∈ mN y, g ∈ F) (hin : ∀ g ∈ fH y, ∃ f ∈ F, f.old = false ∧ Rd f g.aged) : ∀ g ∈ aJ y, ∃ f ∈ F, f.old = false ∧ Rd f g.aged := by
 intro g hg
 rcases List.mem_append.1 ((iI y).mem_iff.1 hg) with hg | hg
 · refine ⟨g, ho g hg, ?_, .aged g⟩
   simp only [mN, List.mem_cons, List.not_mem_nil, or_false] at hg
   rcases hg with rfl | rfl | rfl | rfl | rfl | rfl | rfl | rfl <;> rfl
 · exact hin g hg
theorem jV {Zs G : List Fct} (k : Nat) (hk : Zs[k]? = some (fO G)) {g : Fct} (hg : g ∈ G) : ∃ f ∈ Zs, f.old = false ∧ Rd f g.aged := ⟨_, List.mem_of_getElem? hk, rfl, .ofO ⟨g, hg, .refl _⟩⟩
theorem kS {Zs : List Fct} (k : Nat) {g : Fct} (hk : Zs[k]? = some g) (ho : g.old = false) : ∃ f ∈ Zs, f.old = false ∧ Rd f g.aged := ⟨g, List.mem_of_getElem? hk, ho, .aged g⟩
theorem iP0 (y : StateH) (i : Nat) (h : i < y.sems.length) : RdIn (fH y) (slo (y.sems[i]).q dL 2 (y.sems[i]).m.queue) :=
 RdIn.own (o := false) (e := 161) (List.mem_append_left _ (List.mem_flatMap.2 ⟨_, List.getElem_mem h, by simp [qM]⟩))
theorem iQ0 (y : StateH) (i : Nat) (h : i < y.onces.length) : RdIn (fH y) (slo (y.onces[i]).q aL 1 (y.onces[i]).m.waits) :=
 RdIn.own (o := false) (e := 3) (List.mem_append_right _ (List.mem_append_left _ (List.mem_flatMap.2 ⟨_, List.getElem_mem h, by simp [qB]⟩)))
theorem zM (y : StateH) (i : Nat) (h : i < y.groups.length) : RdIn (fH y) (slo (y.groups[i]).q aL 1 (y.groups[i]).m.waits) :=
 RdIn.own (o := false) (e := 3) (List.mem_append_right _ (List.mem_append_right _ (List.mem_append_left _ (List.mem_flatMap.2 ⟨_, List.getElem_mem h, by simp [lE]⟩))))
theorem yA (y : StateH) (i : Nat) (h : i < y.barriers.length) : RdIn (fH y) (slo (y.barriers[i]).q aL 1 (y.barriers[i]).m.waits) :=
 RdIn.own (o := false) (e := 3) (List.mem_append_right _ (List.mem_append_right _ (List.mem_append_right _ (List.mem_append_left _ (List.mem_flatMap.2 ⟨_, List.getElem_mem h, by simp [fF]⟩)))))
theorem zN (y : StateH) (i : Nat) (h : i < y.chans.length) : RdIn (fH y) (slo (y.chans[i]).q0 aL 1 (y.chans[i]).m.items) :=
 RdIn.own (o := false) (e := 3) (List.mem_append_right _ (List.mem_append_right _ (List.mem_append_right _ (List.mem_append_right _ (List.mem_flatMap.2 ⟨_, List.getElem_mem h, by simp [jO]⟩)))))
theorem zO (y : StateH) (i : Nat) (h : i < y.chans.length) : RdIn (fH y) (slo (y.chans[i]).q1 jY 2 (y.chans[i]).m.senders) :=
 RdIn.own (o := false) (e := 164) (List.mem_append_right _ (List.mem_append_right _ (List.mem_append_right _ (List.mem_append_right _ (List.mem_flatMap.2 ⟨_, List.getElem_mem h, by simp [jO]⟩)))))
theorem zP (y : StateH) (i : Nat) (h : i < y.chans.length) : RdIn (fH y) (slo (y.chans[i]).q2 aL 1 (y.chans[i]).m.getters) :=
 RdIn.own (o := false) (e := 3) (List.mem_append_right _ (List.mem_append_right _ (List.mem_append_right _ (List.mem_append_right _ (List.mem_flatMap.2 ⟨_, List.getElem_mem h, by simp [jO]⟩)))))
theorem Rdy.lens {P : ProgH} {y : StateH} {k : Nat} {ops : List Op} {a st : Int} {op : Op} (r : Rdy P.pure y.pure k ops a st op) :
   y.places.length = P.threads.length ∧ y.status.length = P.threads.length ∧ k < P.threads.length ∧ P.threads.length ≤ 4 ∧ (∀ a ∈ y.pure.places, 0 ≤ a ∧ a ≤ 20) := by
 have ft := r.ft
 have lt : P.pure.threads.length = P.threads.length := by simp [ProgH.pure]
 refine ⟨by rw [← lt]; exact ft.np, by rw [← lt]; exact ft.ns, by rw [← lt]; exact r.kn, by rw [← lt]; exact ft.prog.n4, fun x hx => ?_⟩
 obtain ⟨u, hu, rfl⟩ := List.getElem_of_mem hx
 have hu2 : u < P.pure.threads.length := by rw [← ft.np]; exact hu
 obtain ⟨c0, c1, _⟩ := ft.threads u _ _ _ (List.getElem?_eq_getElem hu2) (List.getElem?_eq_getElem hu) (List.getElem?_eq_getElem (by rw [ft.ns]; exact hu2))
 have := (ft.prog.ops _ (List.getElem_mem hu2)).1
 exact ⟨c0, by omega⟩
def DoR (s' : State) (v : Value) (L : List Fct) : Prop := ∃ y : StateH, v = aM y ∧ y.pure = s' ∧ L = [fN (aJ y)]
end Go.Proofs.YtchkcjeeknfchaaGreatDoor
