/- FnFormatState: texts that its proof stands on, part 5. -/
import Derived.Test.YtchkcjeeknfchaaGreatDoorQFormatStated
namespace Go.Proofs.YtchkcjeeknfchaaGreatDoor
set_option maxRecDepth 100000
set_option maxHeartbeats 100000000
open Go Go.Sx Go.RowKit
def l6Words : List ByteArray := [⟨#[]⟩, ⟨#[115, 97, 121]⟩, ⟨#[97, 99, 113, 117, 105, 114, 101]⟩, ⟨#[114, 101, 108, 101, 97, 115, 101]⟩, ⟨#[111, 110, 99, 101]⟩, ⟨#[97, 100, 100]⟩, ⟨#[119, 97, 105, 116]⟩, ⟨#[97, 114, 114, 105, 118, 101]⟩, ⟨#[115, 101, 110, 100]⟩, ⟨#[103, 101, 116]⟩, ⟨#[99, 108, 111, 115, 101]⟩]
def cStr (b : ByteArray) : List Value := [.string b]
theorem mG0 : Enc cStr 1 := ⟨fun _ => rfl, fun _ u hu => by simp [cStr] at hu; subst hu; rfl⟩
def qT (k : Int) : ByteArray := if 1 ≤ k ∧ k ≤ 10 then l6Words.getD k.toNat ⟨#[]⟩ else ⟨#[]⟩
theorem sB (k : Int) : ((qT k).toList == (⟨#[]⟩ : ByteArray).toList) = true ↔ ¬ (1 ≤ k ∧ k ≤ 10) := by
 unfold qT
 by_cases h : 1 ≤ k ∧ k ≤ 10
 · rw [if_pos h]
   have : k = 1 ∨ k = 2 ∨ k = 3 ∨ k = 4 ∨ k = 5 ∨ k = 6 ∨ k = 7 ∨ k = 8 ∨ k = 9 ∨ k = 10 := by omega
   simp only [h, and_self, not_true_eq_false, iff_false]
   rw [← beq_toListBytes]
   rcases this with rfl | rfl | rfl | rfl | rfl | rfl | rfl | rfl | rfl | rfl <;> decide
 · rw [if_neg h]
   simp [h]
theorem hJ0 (k : Int) (w : World) : Calls Tryz.prog 119 #[.int .i64 k] w (Ret w fun v L => v = .string (qT k) ∧ L = []) := by
 refine bU Tryz.func119 rfl aA w _ rfl _ rfl [] trivial trivial _ (by decide) ?_
 refine AllSl.mk fun y => ?_
 apply CaseB.mk <;> intro g
 · have q : ¬ (1 ≤ k ∧ k ≤ 10) := by simp at g; omega
   exact aG ⟨by rw [qT, if_neg q], rfl⟩ (fun _ => rfl)
 refine CaseB.mk (fun g2 => ?_) (fun g2 => ?_)
 · have q : ¬ (1 ≤ k ∧ k ≤ 10) := by simp at g2; omega
   exact aG ⟨by rw [qT, if_neg q], rfl⟩ (fun _ => rfl)
 have q : 1 ≤ k ∧ k ≤ 10 := by simp at g g2; omega
 have hlt : k.toNat < l6Words.length := by show k.toNat < 11; omega
 refine aF mG0 (xs := l6Words) aA rfl rfl rfl rfl rfl ⟨rfl, rfl⟩ (bF 0 rfl) k.toNat (by omega) hlt (fun ad => ?_)
 exact aG ⟨by rw [qT, if_pos q]; simp [List.getD, hlt], rfl⟩ (fun _ => rfl)
theorem lZ (i : Sl) (xs : List Int) (lo hi : Int) (w : World) (h : At w [slo i aL 1 xs]) (hb : xs.length ≤ 4294967296) :
   Calls Tryz.prog 90 #[i.val xs.length, .int .i64 lo, .int .i64 hi] w (gC w (gE xs lo hi)) := by
 refine mF Tryz.func90 rfl aA w _ rfl _ rfl _ h ⟨rfl, rfl, trivial⟩ _ _ _ (by decide) ?_
 refine LoopW.mk ⟨{ k : Nat // k ≤ xs.length ∧ k ≤ 4 ∧ ∀ x ∈ xs.take k, lo ≤ x ∧ x ≤ hi },
   fun k => .mk [(0, .v (i.val xs.length)), (1, .v (.int .i64 lo)), (2, .v (.int .i64 hi)), (7, .v (.int .i64 (k.1 : Int)))] 0 0 [] [] [slo i aL 1 xs],
   fun k => xs.length - k.1, ⟨0, Nat.zero_le _, by omega, by simp⟩, ?_, ?_⟩
 · exact aC [0] zw2 zw0 zw2 zw5 zw4 rfl rfl
 rintro ⟨k, hk, h4, hinv⟩
 apply CaseB.mk <;> intro g
 · have hlt : k < xs.length := by simpa using g
   apply CaseB.mk <;> intro g
   · have h3 : k ≤ 3 := by simp at g; omega
     refine aF aI aA rfl rfl rfl rfl rfl ⟨rfl, rfl⟩ z31 k rfl z37 (fun ad => ?_)
     apply CaseB.mk <;> intro g
     · have q : xs[k] < lo := by simpa using g
       exact aG ⟨_, rfl, tno fun e => by have := (e.2 _ (List.getElem_mem hlt)).1; omega, rfl⟩ (fun _ => rfl)
     have q1 : ¬ xs[k] < lo := by simpa using g
     refine aF aI aA rfl rfl rfl rfl rfl ⟨rfl, rfl⟩ z31 k rfl z37 (fun ad2 => ?_)
     apply CaseB.mk <;> intro g
     · have q : hi < xs[k] := by simpa using g
       exact aG ⟨_, rfl, tno fun e => by have := (e.2 _ (List.getElem_mem hlt)).2; omega, rfl⟩ (fun _ => rfl)
     have q2 : ¬ hi < xs[k] := by simpa using g
     have hw := bA k _ hlt (by omega)
     refine ⟨⟨k + 1, by omega, by omega, fun x hx => ?_⟩, ?_, by simp; omega⟩
     · rw [List.take_succ_eq_append_getElem hlt] at hx
       rcases List.mem_append.1 hx with hx | hx
       · exact hinv x hx
       · simp at hx; subst hx; omega
     · exact aC [0] zw1 zw0 zw1 zw5 zw3 rfl rfl
   · have h3 : ¬ k ≤ 3 := by simp at g; omega
     have : ¬ xs.length ≤ 3 := by omega
     exact aG ⟨_, rfl, by simp [gE]; omega, rfl⟩ (fun _ => rfl)
 · have hge : xs.length ≤ k := by simpa using g
   rw [List.take_of_length_le hge] at hinv
   refine aG ⟨_, rfl, ?_, rfl⟩ (fun _ => rfl)
   simp only [gE, decide_eq_true_eq]
   exact ⟨fun e => ⟨by omega, hinv⟩, fun e => by have := e.1; omega⟩
theorem cG0 (p : ProgH) (k : Int) (w : World) : Calls Tryz.prog 120 #[eJ p, .int .i64 k] w (Ret w fun v L => v = .int .i64 (p.pure.shared k) ∧ L = []) := by
 have t : p.pure.sems = p.sems ∧ p.pure.groups = p.groups ∧ p.pure.barriers = p.barriers ∧ p.pure.rooms = p.rooms := ⟨rfl, rfl, rfl, rfl⟩
 refine cN Tryz.func120 rfl aA w _ rfl _ rfl [] trivial trivial _ _ (by decide) ?_
 refine CaseB.mk (fun k1 => ?_) (fun k1 => ?_)
 · have q1 : k = 1 := by simpa using k1
   exact aG ⟨by simp [Prog.shared, q1], rfl⟩ (fun _ => rfl)
 have q1 : ¬ k = 1 := by simpa using k1
 refine CaseB.mk (fun k2 => ?_) (fun k2 => ?_)
 · have q2 : k = 2 := by simpa using k2
   refine CaseB.mk (fun _ => ?_) (fun g => by rw [k2] at g; cases g)
   exact aG ⟨by simp [Prog.shared, t, q2], rfl⟩ (fun _ => rfl)
 have q2 : ¬ k = 2 := by simpa using k2
 refine CaseB.mk (fun k3 => ?_) (fun k3 => ?_)
 · have q3 : k = 3 := by simpa using k3
   exact aG ⟨by simp [Prog.shared, t, q3], rfl⟩ (fun _ => rfl)
 have q3 : ¬ k = 3 := by simpa using k3
 refine CaseB.mk (fun k4 => ?_) (fun k4 => ?_)
 · have q4 : k = 4 := by simpa using k4
   exact aG ⟨by simp [Prog.shared, q4], rfl⟩ (fun _ => rfl)
 have q4 : ¬ k = 4 := by simpa using k4
 refine CaseB.mk (fun k5 => ?_) (fun k5 => ?_)
 · have q5 : k = 5 := by simpa using k5
   refine CaseB.mk (fun _ => ?_) (fun g => by rw [k5] at g; cases g)
   exact aG ⟨by simp [Prog.shared, t, q5], rfl⟩ (fun _ => rfl)
 have q5 : ¬ k = 5 := by simpa using k5
 refine CaseB.mk (fun k6 => ?_) (fun k6 => ?_)
 · have q6 : k = 6 := by simpa using k6
   exact aG ⟨by simp [Prog.shared, t, q6], rfl⟩ (fun _ => rfl)
 have q6 : ¬ k = 6 := by simpa using k6
 refine CaseB.mk (fun k7 => ?_) (fun k7 => ?_)
 · have q7 : k = 7 := by simpa using k7
   exact aG ⟨by simp [Prog.shared, t, q7], rfl⟩ (fun _ => rfl)
 have q7 : ¬ k = 7 := by simpa using k7
 exact aG ⟨by simp [Prog.shared, t, q1, q2, q3, q4, q5, q6, q7], rfl⟩ (fun _ => rfl)
theorem jY0 (p : ProgH) (o : Op) (w : World) (h : At w [fR (bD p)]) (h0 : 0 ≤ o.on) (h1 : o.on < p.pure.shared o.kind) :
   Calls Tryz.prog 121 #[eJ p, .agg (cOp o).toArray] w (gC w (p.pure.argOk o)) := by
 refine cN Tryz.func121 rfl aA w _ rfl _ rfl _ h ⟨rfl, rfl, trivial⟩ _ _ (by decide) ?_
 refine CaseB.mk (fun k2 => ?_) (fun k2 => ?_)
 · refine CaseB.mk (fun _ => ?_) (fun g => by rw [k2] at g; cases g)
   have q : o.kind = 2 := by simpa using k2
   have hs : o.on < (p.sems.length : Int) := by simpa [Prog.shared, q, ProgH.pure] using h1
   have hlt : o.on.toNat < p.sems.length := by omega
   have e : p.pure.sems.getD o.on.toNat 0 = p.sems[o.on.toNat] := by simp [ProgH.pure, List.getD, hlt]
   have hx : p.pure.argOk o ↔ 1 ≤ o.arg ∧ o.arg ≤ p.sems[o.on.toNat] := by rw [← e]; simp [Prog.argOk, q]
   refine aH aA z88 z88 z88 200 [((0, 0), .v (p.h0.val p.sems.length)), ((1, 0), .v (.int .i64 o.kind)), ((1, 1), .v (.int .i64 o.on)), ((1, 2), .v (.int .i64 o.arg))] [0] [_] z98 z110 ⟨rfl, trivial⟩ rfl ?_
   apply CaseB.mk <;> intro g
   · have c : 1 ≤ o.arg := by simp at g; omega
     refine bM (ti := aZ tab) aI aA rfl rfl rfl rfl rfl ⟨rfl, rfl⟩ (aN 0 rfl (.ofR (fA p))) o.on.toNat (by omega) z37 (fun ad => ?_)
     exact aG ⟨_, rfl, by rw [hx]; simp [c], rfl⟩ (fun _ => rfl)
   · have c : ¬ 1 ≤ o.arg := by simp at g; omega
     exact aG ⟨_, rfl, tno fun e => c (hx.1 e).1, rfl⟩ (fun _ => rfl)
 refine CaseB.mk (fun k3 => ?_) (fun k3 => ?_)
 · skip
   have q : o.kind = 3 := by simpa using k3
   have hs : o.on < (p.sems.length : Int) := by simpa [Prog.shared, q, ProgH.pure] using h1
   have hlt : o.on.toNat < p.sems.length := by omega
   have e : p.pure.sems.getD o.on.toNat 0 = p.sems[o.on.toNat] := by simp [ProgH.pure, List.getD, hlt]
   have hx : p.pure.argOk o ↔ 1 ≤ o.arg ∧ o.arg ≤ p.sems[o.on.toNat] := by rw [← e]; simp [Prog.argOk, q]
   refine aH aA z88 z88 z88 200 [((0, 0), .v (p.h0.val p.sems.length)), ((1, 0), .v (.int .i64 o.kind)), ((1, 1), .v (.int .i64 o.on)), ((1, 2), .v (.int .i64 o.arg))] [0] [_] z98 z110 ⟨rfl, trivial⟩ rfl ?_
   apply CaseB.mk <;> intro g
   · have c : 1 ≤ o.arg := by simp at g; omega
     refine bM (ti := aZ tab) aI aA rfl rfl rfl rfl rfl ⟨rfl, rfl⟩ (aN 0 rfl (.ofR (fA p))) o.on.toNat (by omega) z37 (fun ad => ?_)
     exact aG ⟨_, rfl, by rw [hx]; simp [c], rfl⟩ (fun _ => rfl)
   · have c : ¬ 1 ≤ o.arg := by simp at g; omega
     exact aG ⟨_, rfl, tno fun e => c (hx.1 e).1, rfl⟩ (fun _ => rfl)
 have n2 : ¬ o.kind = 2 := by simpa using k2
 have n3 : ¬ o.kind = 3 := by simpa using k3
 refine CaseB.mk (fun k5 => ?_) (fun k5 => ?_)
 · have q : o.kind = 5 := by simpa using k5
   have hx : p.pure.argOk o ↔ -9 ≤ o.arg ∧ o.arg ≤ 9 := by simp [Prog.argOk, q]
   apply CaseB.mk <;> intro g
   · have c : -9 ≤ o.arg := by simp at g; omega
     exact aG ⟨_, rfl, by rw [hx]; simp [c], rfl⟩ (fun _ => rfl)
   · have c : ¬ -9 ≤ o.arg := by simp at g; omega
     exact aG ⟨_, rfl, tno fun e => c (hx.1 e).1, rfl⟩ (fun _ => rfl)
 have n5 : ¬ o.kind = 5 := by simpa using k5
 refine CaseB.mk (fun k1 => ?_) (fun k1 => ?_)
 · have q : o.kind = 1 := by simpa using k1
   have hx : p.pure.argOk o ↔ aR o.arg = true := by simp [Prog.argOk, q]
   refine CaseB.mk (fun _ => ?_) (fun g => by rw [k1] at g; cases g)
   refine aB _ uE rfl rfl rfl rfl ⟨rfl, rfl⟩ (fun A w hW => eM _ w) ?_
   rintro v L ⟨rfl, rfl⟩
   exact aG ⟨_, rfl, by rw [hx], rfl⟩ (fun _ => rfl)
 have n1 : ¬ o.kind = 1 := by simpa using k1
 refine CaseB.mk (fun k4 => ?_) (fun k4 => ?_)
 · have q : o.kind = 4 := by simpa using k4
   have hx : p.pure.argOk o ↔ aR o.arg = true := by simp [Prog.argOk, q]
   refine CaseB.mk (fun _ => ?_) (fun g => by rw [k4] at g; cases g)
   refine aB _ uE rfl rfl rfl rfl ⟨rfl, rfl⟩ (fun A w hW => eM _ w) ?_
   rintro v L ⟨rfl, rfl⟩
   exact aG ⟨_, rfl, by rw [hx], rfl⟩ (fun _ => rfl)
 have n4 : ¬ o.kind = 4 := by simpa using k4
 refine CaseB.mk (fun k8 => ?_) (fun k8 => ?_)
 · have q : o.kind = 8 := by simpa using k8
   have hx : p.pure.argOk o ↔ aR o.arg = true := by simp [Prog.argOk, q]
   refine aB _ uE rfl rfl rfl rfl ⟨rfl, rfl⟩ (fun A w hW => eM _ w) ?_
   rintro v L ⟨rfl, rfl⟩
   exact aG ⟨_, rfl, by rw [hx], rfl⟩ (fun _ => rfl)
 have n8 : ¬ o.kind = 8 := by simpa using k8
 have hx : p.pure.argOk o ↔ o.arg = 0 := by simp [Prog.argOk, n1, n2, n3, n4, n5, n8]
 exact aG ⟨_, rfl, by rw [hx]; simp, rfl⟩ (fun _ => rfl)
theorem iA (p : ProgH) (o : Op) (w : World) (h : At w [fR (bD p)]) :
   Calls Tryz.prog 91 #[eJ p, .agg (cOp o).toArray] w (gC w (OpOk p.pure o)) := by
 refine cN Tryz.func91 rfl aA w _ rfl _ rfl _ h ⟨rfl, rfl, trivial⟩ _ _ (by decide) ?_
 refine aH aA z88 z88 z88 200 [((0, 0), .v (p.h0.val p.sems.length)), ((0, 1), .v (p.h1.val p.groups.length)), ((0, 2), .v (p.h2.val p.barriers.length)), ((0, 3), .v (p.h3.val p.rooms.length)), ((0, 4), .v (p.h4.val p.threads.length)), ((1, 0), .v (.int .i64 o.kind)), ((1, 1), .v (.int .i64 o.on)), ((1, 2), .v (.int .i64 o.arg))] [0] [_] ⟨⟨_, rfl, rfl, z64⟩, ⟨_, rfl, rfl, z64⟩, ⟨_, rfl, rfl, z64⟩, ⟨_, rfl, rfl, z64⟩, ⟨_, rfl, rfl, z64⟩, ⟨_, rfl, rfl, z64⟩, ⟨_, rfl, rfl, z64⟩, ⟨_, rfl, rfl, z64⟩, trivial⟩ ⟨⟨_, rfl⟩, ⟨_, rfl⟩, ⟨_, rfl⟩, ⟨_, rfl⟩, ⟨_, rfl⟩, ⟨_, rfl⟩, ⟨_, rfl⟩, ⟨_, rfl⟩, trivial⟩ ⟨rfl, trivial⟩ rfl ?_
 refine bV _ gJ0 rfl rfl rfl rfl ⟨rfl, rfl⟩ (fun A w hW => hJ0 _ w) ?_
 rintro v L ⟨rfl, rfl⟩
 refine jB rfl rfl rfl ⟨rfl, rfl⟩ (.bool ((qT o.kind).toList == (⟨#[]⟩ : ByteArray).toList)) (fun w => (aO w)) (fun w => (dR0 w)) ?_
 apply CaseB.mk <;> intro g
 · have q := (sB o.kind).1 g
   exact aG ⟨_, rfl, tno fun e => q ⟨e.1, e.2.1⟩, rfl⟩ (fun _ => rfl)
 have q : 1 ≤ o.kind ∧ o.kind ≤ 10 := by
   refine Classical.byContradiction fun n => ?_
   rw [(sB o.kind).2 n] at g
   cases g
 apply CaseB.mk <;> intro g
 · have c : ¬ 0 ≤ o.on := by simp at g; omega
   exact aG ⟨_, rfl, tno fun e => c e.2.2.1, rfl⟩ (fun _ => rfl)
 have c0 : 0 ≤ o.on := by simp at g; omega
 refine bV _ cl120 rfl rfl rfl rfl ⟨rfl, rfl⟩ (fun A w hW => cG0 p _ w) ?_
 rintro v L ⟨rfl, rfl⟩
 apply CaseB.mk <;> intro g
 · have c : ¬ o.on < p.pure.shared o.kind := by simp at g; omega
   exact aG ⟨_, rfl, tno fun e => c e.2.2.2.1, rfl⟩ (fun _ => rfl)
 have c1 : o.on < p.pure.shared o.kind := by simp at g; omega
 refine aB _ cl121 rfl rfl rfl rfl ⟨rfl, rfl⟩ (fun A w hW => jY0 p o w ⟨hW.get 0 rfl (.refl _), trivial⟩ c0 c1) ?_
 rintro v L ⟨b, rfl, hb, rfl⟩
 exact aG ⟨_, rfl, by rw [hb]; simp [OpOk, q, c0, c1], rfl⟩ (fun _ => rfl)
theorem kO (p : ProgH) (w : World) (h : At w [fR (bD p)]) (hs : p.sems.length ≤ 1048576 ∧ p.groups.length ≤ 1048576 ∧ p.barriers.length ≤ 1048576 ∧ p.rooms.length ≤ 1048576) :
   Calls Tryz.prog 49 #[eJ p] w (gC w (ProgOk p.pure)) := by
 refine bU Tryz.func49 rfl aA w _ rfl _ rfl _ h ⟨rfl, rfl, trivial⟩ _ (by decide) ?_
 refine aB _ jJ0 rfl rfl rfl rfl ⟨rfl, rfl⟩ (fun A w hW => lZ p.h0 p.sems 1 9 w ⟨hW.get 0 rfl (.ofR (fA p)), trivial⟩ (by omega)) ?_
 rintro v L ⟨b0, rfl, hb0, rfl⟩
 apply CaseB.mk <;> intro g
 · exact aG ⟨_, rfl, tno fun e => (by have := hb0.2 e.sems; rw [this] at g; cases g), rfl⟩ (fun _ => rfl)
 have w0 := hb0.1 z85
 refine aB _ jJ0 rfl rfl rfl rfl ⟨rfl, rfl⟩ (fun A w hW => lZ p.h1 p.groups 0 9 w ⟨hW.get 0 rfl (.ofR (kL p)), trivial⟩ (by omega)) ?_
 rintro v L ⟨b1, rfl, hb1, rfl⟩
 apply CaseB.mk <;> intro g
 · exact aG ⟨_, rfl, tno fun e => (by have := hb1.2 e.groups; rw [this] at g; cases g), rfl⟩ (fun _ => rfl)
 have w1 := hb1.1 z85
 refine aB _ jJ0 rfl rfl rfl rfl ⟨rfl, rfl⟩ (fun A w hW => lZ p.h2 p.barriers 1 6 w ⟨hW.get 0 rfl (.ofR (fG p)), trivial⟩ (by omega)) ?_
 rintro v L ⟨b2, rfl, hb2, rfl⟩
 apply CaseB.mk <;> intro g
 · exact aG ⟨_, rfl, tno fun e => (by have := hb2.2 e.barriers; rw [this] at g; cases g), rfl⟩ (fun _ => rfl)
 have w2 := hb2.1 z85
 refine aB _ jJ0 rfl rfl rfl rfl ⟨rfl, rfl⟩ (fun A w hW => lZ p.h3 p.rooms 0 4 w ⟨hW.get 0 rfl (.ofR (iF p)), trivial⟩ (by omega)) ?_
 rintro v L ⟨b3, rfl, hb3, rfl⟩
 apply CaseB.mk <;> intro g
 · exact aG ⟨_, rfl, tno fun e => (by have := hb3.2 e.rooms; rw [this] at g; cases g), rfl⟩ (fun _ => rfl)
 have w3 := hb3.1 z85
 have hlen : p.pure.threads.length = p.threads.length := by simp [ProgH.pure]
 apply CaseB.mk <;> intro g
 · have q : ¬ 1 ≤ p.threads.length := by have g' := of_decide_eq_true g; omega
   exact aG ⟨_, rfl, tno fun e => q (hlen ▸ e.n1), rfl⟩ (fun _ => rfl)
 have n1 : 1 ≤ p.threads.length := by have g' := of_decide_eq_false g; omega
 apply CaseB.mk <;> intro g
 · have q : ¬ p.threads.length ≤ 4 := by simp at g; omega
   exact aG ⟨_, rfl, tno fun e => q (hlen ▸ e.n4), rfl⟩ (fun _ => rfl)
 have n4 : p.threads.length ≤ 4 := by simp at g; omega
 have hmem : ∀ (k : Nat) (hk : k < p.threads.length), (p.threads[k]).m ∈ p.pure.threads := fun k hk => List.mem_map_of_mem (List.getElem_mem hk)
 refine LoopW.mk ⟨{ k : Nat // k ≤ p.threads.length ∧ ∀ t ∈ p.pure.threads.take k, t.length ≤ 8 ∧ ∀ o ∈ t, OpOk p.pure o },
   fun k => .mk [(1, .p 0 0), (3, .v (.int .i64 (k.1 : Int)))] 1 0 [(0, 38, 5)] [((0, 0), .v (p.h0.val p.sems.length)), ((0, 1), .v (p.h1.val p.groups.length)), ((0, 2), .v (p.h2.val p.barriers.length)), ((0, 3), .v (p.h3.val p.rooms.length)), ((0, 4), .v (p.h4.val p.threads.length))] [fR (bD p)],
   fun k => p.threads.length - k.1, ⟨0, Nat.zero_le _, by simp⟩, ?_, ?_⟩
 · exact aC [0] zw2 zw0 zw2 zw5 zw4 rfl rfl
 rintro ⟨k, hk, hinv⟩
 apply CaseB.mk <;> intro g
 · have hlt : k < p.threads.length := by simpa using g
   have hget : p.pure.threads[k]'(by rw [hlen]; exact hlt) = (p.threads[k]).m := by simp [ProgH.pure]
   refine LoopW.mk ⟨{ j : Nat // j ≤ (p.threads[k]).m.length ∧ j ≤ 9 ∧ ∀ o ∈ (p.threads[k]).m.take j, OpOk p.pure o },
     fun j => .mk [(1, .p 0 0), (3, .v (.int .i64 (k : Int))), (4, .v (.int .i64 (j.1 : Int)))] 1 0 [(0, 38, 5)] [((0, 0), .v (p.h0.val p.sems.length)), ((0, 1), .v (p.h1.val p.groups.length)), ((0, 2), .v (p.h2.val p.barriers.length)), ((0, 3), .v (p.h3.val p.rooms.length)), ((0, 4), .v (p.h4.val p.threads.length))] [fR (bD p)],
     fun j => (p.threads[k]).m.length - j.1, ⟨0, Nat.zero_le _, by omega, by simp⟩, ?_, ?_⟩
   · exact aC [0] zw2 zw0 zw2 zw5 zw4 rfl rfl
   rintro ⟨j, hj, h9, hinv2⟩
   refine aF eR aA rfl rfl rfl rfl rfl ⟨rfl, rfl⟩ (aN 0 rfl (.trans (.R_R (bE p)) (.ofR bK))) k rfl z37 (fun ad => ?_)
   have hend : ((p.threads[k]).m.length ≤ 8 → (p.threads[k]).m.length ≤ j) → (p.threads[k]).m.length ≤ 8 → ∀ t ∈ p.pure.threads.take (k + 1), t.length ≤ 8 ∧ ∀ o ∈ t, OpOk p.pure o := fun hge2 n8 t ht => by
     rw [List.take_succ_eq_append_getElem (by rw [hlen]; exact hlt)] at ht
     rcases List.mem_append.1 ht with ht | ht
     · exact hinv t ht
     · simp only [List.mem_singleton] at ht
       rw [hget] at ht
       subst ht
       exact ⟨n8, by rw [List.take_of_length_le (hge2 n8)] at hinv2; exact hinv2⟩
   have hw := bA k _ hlt (by omega)
   apply CaseB.mk <;> intro g
   · have hlj : j < (p.threads[k]).m.length := by simpa using g
     apply CaseB.mk <;> intro g
     · have h8 : j ≤ 8 := by simp at g; omega
       refine aH aA z88 z88 z88 200 [((0, 0), .v (p.h0.val p.sems.length)), ((0, 1), .v (p.h1.val p.groups.length)), ((0, 2), .v (p.h2.val p.barriers.length)), ((0, 3), .v (p.h3.val p.rooms.length)), ((0, 4), .v (p.h4.val p.threads.length))] [0] [_] z94 z105 ⟨rfl, trivial⟩ rfl ?_
       refine bM (ti := aZ tab) eR aA rfl rfl rfl rfl rfl ⟨rfl, rfl⟩ (aN 0 rfl (.trans (.R_R (bE p)) (.ofR bK))) k rfl z37 (fun ad3 => ?_)
       refine bM (ti := aZ tab) oX aA rfl rfl rfl rfl rfl ⟨rfl, rfl⟩ (aN 0 rfl (.trans (.R_R (bE p)) (.ofR (gD _ _ k hlt)))) j rfl z37 (fun ad2 => ?_)
       refine bV _ bO0 rfl rfl rfl rfl ⟨rfl, rfl⟩ (fun A w hW => iA p _ w ⟨hW.get 0 rfl (.refl _), trivial⟩) ?_
       rintro v L ⟨b, rfl, hb, rfl⟩
       apply CaseB.mk <;> intro g
       · exact aG ⟨_, rfl, tno fun e => z46, rfl⟩ (fun _ => rfl)
       have hw := bA j 9 (by omega) (by omega)
       refine ⟨⟨j + 1, by omega, by omega, fun o ho => ?_⟩, ?_, by simp; omega⟩
       · rw [List.take_succ_eq_append_getElem hlj] at ho
         rcases List.mem_append.1 ho with ho | ho
         · exact hinv2 o ho
         · simp at ho; subst ho; exact hb.1 z85
       · exact aC [0] zw1 zw0 zw1 zw5 zw3 rfl rfl
     · have h8 : ¬ j ≤ 8 := by simp at g; omega
       refine aF eR aA rfl rfl rfl rfl rfl ⟨rfl, rfl⟩ (aN 0 rfl (.trans (.R_R (bE p)) (.ofR bK))) k rfl z37 (fun ad4 => ?_)
       refine CaseB.mk (fun g => ?_) (fun g => by simp at g; omega)
       have q : ¬ (p.threads[k]).m.length ≤ 8 := by omega
       exact aG ⟨_, rfl, tno fun e => q (e.ops _ (hmem k hlt)).1, rfl⟩ (fun _ => rfl)
   have hge2 : (p.threads[k]).m.length ≤ j := by simpa using g
   refine aF eR aA rfl rfl rfl rfl rfl ⟨rfl, rfl⟩ (aN 0 rfl (.trans (.R_R (bE p)) (.ofR bK))) k rfl z37 (fun ad4 => ?_)
   apply CaseB.mk <;> intro g
   · have q : ¬ (p.threads[k]).m.length ≤ 8 := by simp at g; omega
     exact aG ⟨_, rfl, tno fun e => q (e.ops _ (hmem k hlt)).1, rfl⟩ (fun _ => rfl)
   have n8 : (p.threads[k]).m.length ≤ 8 := by simp at g; omega
   refine ⟨⟨k + 1, by omega, hend (fun _ => hge2) n8⟩, ?_, by simp; omega⟩
   exact aC [0] zw1 zw0 zw1 zw5 zw3 rfl rfl
 have hge : p.threads.length ≤ k := by simpa using g
 refine aG ⟨_, rfl, vR ⟨w0, w1, w2, w3, by rw [hlen]; exact n1, by rw [hlen]; exact n4, fun t ht => ?_⟩, rfl⟩ (fun _ => rfl)
 rw [List.take_of_length_le (by rw [hlen]; exact hge)] at hinv
 exact hinv t ht
structure SharedOk (p : Prog) (s : State) : Prop where
 lsems : s.sems.length = p.sems.length
 lgroups : s.groups.length = p.groups.length
 lbarriers : s.barriers.length = p.barriers.length
 lchans : s.chans.length = p.rooms.length
 lonces : s.onces.length = 3
 sems : ∀ (i : Nat) x, s.sems[i]? = some x → SemOk x ∧ p.sems[i]? = some x.limit
 groups : ∀ x ∈ s.groups, fE x
 barriers : ∀ (i : Nat) x, s.barriers[i]? = some x → dE x ∧ p.barriers[i]? = some x.parties
 chans : ∀ (i : Nat) x, s.chans[i]? = some x → x.valid = true ∧ p.rooms[i]? = some x.room
 onces : ∀ x ∈ s.onces, cS x
theorem Fits.shared {p : Prog} {s : State} (h : Fits p s) : SharedOk p s := ⟨h.lsems, h.lgroups, h.lbarriers, h.lchans, h.lonces, h.sems, h.groups, h.barriers, h.chans, h.onces⟩
theorem hK0 (p : ProgH) (s : StateH) (w : World) (h : At w [fR (bD p), fR (aJ s)]) (ok : ProgOk p.pure) (hs : s.pure.small20) :
   Calls Tryz.prog 50 #[eJ p, aM s] w (gC w (SharedOk p.pure s.pure)) := by
 obtain ⟨b0, b1, b2, b3, b4, b5, b6, b7⟩ := hs
 have mlen : ∀ {α β : Type} (f : α → β) (xs : List α), (xs.map f).length = xs.length := fun f xs => by simp
 have m0 : p.sems.length ≤ 3 := ok.sems.1
 have m1 : p.groups.length ≤ 3 := ok.groups.1
 have m2 : p.barriers.length ≤ 3 := ok.barriers.1
 have m3 : p.rooms.length ≤ 3 := ok.rooms.1
 refine cN Tryz.func50 rfl aA w _ rfl _ rfl _ h ⟨rfl, rfl, rfl, rfl, trivial⟩ _ _ (by decide) ?_
 apply CaseB.mk <;> intro g
 · have q : ¬ s.sems.length = p.sems.length := by simp at g; omega
   exact aG ⟨_, rfl, tno fun e => q (by have := e.lsems; simpa [StateH.pure, ProgH.pure] using this), rfl⟩ (fun _ => rfl)
 have c2 : s.sems.length = p.sems.length := by simp at g; omega
 apply CaseB.mk <;> intro g
 · have q : ¬ s.onces.length = 3 := by simp at g; omega
   exact aG ⟨_, rfl, tno fun e => q (by have := e.lonces; simpa [StateH.pure, ProgH.pure] using this), rfl⟩ (fun _ => rfl)
 have c3 : s.onces.length = 3 := by simp at g; omega
 apply CaseB.mk <;> intro g
 · have q : ¬ s.groups.length = p.groups.length := by simp at g; omega
   exact aG ⟨_, rfl, tno fun e => q (by have := e.lgroups; simpa [StateH.pure, ProgH.pure] using this), rfl⟩ (fun _ => rfl)
 have c4 : s.groups.length = p.groups.length := by simp at g; omega
 apply CaseB.mk <;> intro g
 · have q : ¬ s.barriers.length = p.barriers.length := by simp at g; omega
   exact aG ⟨_, rfl, tno fun e => q (by have := e.lbarriers; simpa [StateH.pure, ProgH.pure] using this), rfl⟩ (fun _ => rfl)
 have c5 : s.barriers.length = p.barriers.length := by simp at g; omega
 apply CaseB.mk <;> intro g
 · have q : ¬ s.chans.length = p.rooms.length := by simp at g; omega
   exact aG ⟨_, rfl, tno fun e => q (by have := e.lchans; simpa [StateH.pure, ProgH.pure] using this), rfl⟩ (fun _ => rfl)
 have c6 : s.chans.length = p.rooms.length := by simp at g; omega
 refine LoopW.mk ⟨{ k : Nat // k ≤ s.sems.length ∧ ∀ (i : Nat) x, i < k → s.pure.sems[i]? = some x → SemOk x ∧ p.pure.sems[i]? = some x.limit },
   fun k => .mk [(2, .p 0 0), (3, .p 1 0), (5, .v (.int .i64 (k.1 : Int)))] 2 0 [(0, 38, 5), (1, 46, 9)] [((0, 0), .v (p.h0.val p.sems.length)), ((0, 1), .v (p.h1.val p.groups.length)), ((0, 2), .v (p.h2.val p.barriers.length)), ((0, 3), .v (p.h3.val p.rooms.length)), ((0, 4), .v (p.h4.val p.threads.length)), ((1, 0), .v (s.h0.val s.places.length)), ((1, 1), .v (s.h1.val s.status.length)), ((1, 2), .v (s.h2.val s.sems.length)), ((1, 3), .v (s.h3.val s.onces.length)), ((1, 4), .v (s.h4.val s.groups.length)), ((1, 5), .v (s.h5.val s.barriers.length)), ((1, 6), .v (s.h6.val s.chans.length)), ((1, 7), .v (s.h7.val s.said.length)), ((1, 8), .v (.int .i64 s.fault))] [fR (bD p), fR (aJ s)],
   fun k => s.sems.length - k.1, ⟨0, Nat.zero_le _, fun i x hi => by omega⟩, ?_, ?_⟩
 · exact aC [0, 1] zw2 zw0 zw2 zw5 zw4 rfl rfl
 rintro ⟨k, hk, hinv⟩
 apply CaseB.mk <;> intro g
 · have hlt : k < s.sems.length := by simpa using g
   have hw := bA k _ hlt (by omega)
   have hat : s.pure.sems[k]? = some (s.sems[k]).m := by simp [StateH.pure, hlt]
   have hsm := (cY b2).2 _ (List.getElem_mem hlt)
   unfold Sem.small20 at hsm
   have hlp : k < p.sems.length := by omega
   have hpat : p.pure.sems[k]? = some p.sems[k] := by simp [ProgH.pure, hlp]
   refine aH aA z88 z88 z88 200 [((0, 0), .v (p.h0.val p.sems.length)), ((1, 2), .v (s.h2.val s.sems.length))] [0, 1] [_, _] z107 z116 ⟨rfl, rfl, trivial⟩ rfl ?_
   refine bM (ti := aZ tab) dV aA rfl rfl rfl rfl rfl ⟨rfl, rfl⟩ (aN 1 rfl (.trans (.R_R (cI s)) (.ofR bK))) k rfl z37 (fun ad => ?_)
   refine bV _ lW0 rfl rfl rfl rfl ⟨rfl, rfl⟩ (fun A w hW => pC _ _ w ⟨hW.get 1 rfl (.trans (.R_R (cI s)) (.ofR (nO _ _ k hlt))), trivial⟩ (by omega)) ?_
   rintro v L ⟨bb, rfl, hbb, rfl⟩
   apply CaseB.mk <;> intro g
   · exact aG ⟨_, rfl, tno fun e => (by rw [hbb.2 ((e.sems k _ hat).1)] at g; cases g), rfl⟩ (fun _ => rfl)
   have q1 := hbb.1 z85
   refine bM (ti := aZ tab) dV aA rfl rfl rfl rfl rfl ⟨rfl, rfl⟩ (aN 1 rfl (.trans (.R_R (cI s)) (.ofR bK))) k rfl z37 (fun ad1 => ?_)
   refine bM (ti := aZ tab) aI aA rfl rfl rfl rfl rfl ⟨rfl, rfl⟩ (aN 0 rfl (.ofR (fA p))) k rfl z37 (fun ad2 => ?_)
   apply CaseB.mk <;> intro g
   · have q : ¬ (s.sems[k]).m.limit = p.sems[k] := by simpa using g
     exact aG ⟨_, rfl, tno fun e => q z48, rfl⟩ (fun _ => rfl)
   have q2 : (s.sems[k]).m.limit = p.sems[k] := by simpa using g
   refine ⟨⟨k + 1, by omega, fun i x hi hx => ?_⟩, ?_, by simp only; omega⟩
   · by_cases e : i < k
     · exact hinv i x e hx
     · obtain rfl : i = k := by omega
       rw [hat] at hx
       injection hx with hx
       subst hx
       exact ⟨q1, by rw [hpat, q2]⟩
   · exact aC [0, 1] zw1 zw0 zw1 zw5 zw3 rfl rfl
 have hge : s.sems.length ≤ k := by simpa using g
 have vsems : ∀ (i : Nat) x, s.pure.sems[i]? = some x → SemOk x ∧ p.pure.sems[i]? = some x.limit := fun i x hx => hinv i x (by have := (List.getElem?_eq_some_iff.1 hx).1; have e : s.pure.sems.length = s.sems.length := mlen _ _; omega) hx
 refine LoopW.mk ⟨{ k : Nat // k ≤ s.onces.length ∧ ∀ (i : Nat) x, i < k → s.pure.onces[i]? = some x → cS x },
   fun k => .mk [(2, .p 0 0), (3, .p 1 0), (6, .v (.int .i64 (k.1 : Int)))] 2 0 [(0, 38, 5), (1, 46, 9)] [((0, 0), .v (p.h0.val p.sems.length)), ((0, 1), .v (p.h1.val p.groups.length)), ((0, 2), .v (p.h2.val p.barriers.length)), ((0, 3), .v (p.h3.val p.rooms.length)), ((0, 4), .v (p.h4.val p.threads.length)), ((1, 0), .v (s.h0.val s.places.length)), ((1, 1), .v (s.h1.val s.status.length)), ((1, 2), .v (s.h2.val s.sems.length)), ((1, 3), .v (s.h3.val s.onces.length)), ((1, 4), .v (s.h4.val s.groups.length)), ((1, 5), .v (s.h5.val s.barriers.length)), ((1, 6), .v (s.h6.val s.chans.length)), ((1, 7), .v (s.h7.val s.said.length)), ((1, 8), .v (.int .i64 s.fault))] [fR (bD p), fR (aJ s)],
   fun k => s.onces.length - k.1, ⟨0, Nat.zero_le _, fun i x hi => by omega⟩, ?_, ?_⟩
 · exact aC [0, 1] zw2 zw0 zw2 zw5 zw4 rfl rfl
 rintro ⟨k, hk, hinv⟩
 apply CaseB.mk <;> intro g
 · have hlt : k < s.onces.length := by simpa using g
   have hw := bA k _ hlt (by omega)
   have hat : s.pure.onces[k]? = some (s.onces[k]).m := by simp [StateH.pure, hlt]
   have hsm := (cY b3).2 _ (List.getElem_mem hlt)
   unfold Once.small20 at hsm
   refine aF dM aA rfl rfl rfl rfl rfl ⟨rfl, rfl⟩ (aN 1 rfl (.trans (.R_R (cF s)) (.ofR bK))) k rfl z37 (fun ad => ?_)
   refine aB _ jK0 rfl rfl rfl rfl ⟨rfl, rfl⟩ (fun A w hW => kN _ _ w ⟨hW.get 1 rfl (.trans (.R_R (cF s)) (.ofR (lF _ _ k hlt))), trivial⟩ (by omega)) ?_
   rintro v L ⟨bb, rfl, hbb, rfl⟩
   apply CaseB.mk <;> intro g
   · exact aG ⟨_, rfl, tno fun e => (by rw [hbb.2 (e.onces _ (List.mem_of_getElem? hat))] at g; cases g), rfl⟩ (fun _ => rfl)
   have q1 := hbb.1 z85
   refine ⟨⟨k + 1, by omega, fun i x hi hx => ?_⟩, ?_, by simp only; omega⟩
   · by_cases e : i < k
     · exact hinv i x e hx
     · obtain rfl : i = k := by omega
       rw [hat] at hx
       injection hx with hx
       subst hx
       exact q1
   · exact aC [0, 1] zw1 zw0 zw1 zw5 zw3 rfl rfl
 have hge : s.onces.length ≤ k := by simpa using g
 have vonces : ∀ (i : Nat) x, s.pure.onces[i]? = some x → cS x := fun i x hx => hinv i x (by have := (List.getElem?_eq_some_iff.1 hx).1; have e : s.pure.onces.length = s.onces.length := mlen _ _; omega) hx
 refine LoopW.mk ⟨{ k : Nat // k ≤ s.groups.length ∧ ∀ (i : Nat) x, i < k → s.pure.groups[i]? = some x → fE x },
   fun k => .mk [(2, .p 0 0), (3, .p 1 0), (7, .v (.int .i64 (k.1 : Int)))] 2 0 [(0, 38, 5), (1, 46, 9)] [((0, 0), .v (p.h0.val p.sems.length)), ((0, 1), .v (p.h1.val p.groups.length)), ((0, 2), .v (p.h2.val p.barriers.length)), ((0, 3), .v (p.h3.val p.rooms.length)), ((0, 4), .v (p.h4.val p.threads.length)), ((1, 0), .v (s.h0.val s.places.length)), ((1, 1), .v (s.h1.val s.status.length)), ((1, 2), .v (s.h2.val s.sems.length)), ((1, 3), .v (s.h3.val s.onces.length)), ((1, 4), .v (s.h4.val s.groups.length)), ((1, 5), .v (s.h5.val s.barriers.length)), ((1, 6), .v (s.h6.val s.chans.length)), ((1, 7), .v (s.h7.val s.said.length)), ((1, 8), .v (.int .i64 s.fault))] [fR (bD p), fR (aJ s)],
   fun k => s.groups.length - k.1, ⟨0, Nat.zero_le _, fun i x hi => by omega⟩, ?_, ?_⟩
 · exact aC [0, 1] zw2 zw0 zw2 zw5 zw4 rfl rfl
 rintro ⟨k, hk, hinv⟩
 apply CaseB.mk <;> intro g
 · have hlt : k < s.groups.length := by simpa using g
   have hw := bA k _ hlt (by omega)
   have hat : s.pure.groups[k]? = some (s.groups[k]).m := by simp [StateH.pure, hlt]
   have hsm := (cY b4).2 _ (List.getElem_mem hlt)
   unfold Group.small20 at hsm
   refine aF cP aA rfl rfl rfl rfl rfl ⟨rfl, rfl⟩ (aN 1 rfl (.trans (.R_R (bZ s)) (.ofR bK))) k rfl z37 (fun ad => ?_)
   refine aB _ lX0 rfl rfl rfl rfl ⟨rfl, rfl⟩ (fun A w hW => mL _ _ w ⟨hW.get 1 rfl (.trans (.R_R (bZ s)) (.ofR (iE _ _ k hlt))), trivial⟩ (by omega)) ?_
   rintro v L ⟨bb, rfl, hbb, rfl⟩
   apply CaseB.mk <;> intro g
   · exact aG ⟨_, rfl, tno fun e => (by rw [hbb.2 (e.groups _ (List.mem_of_getElem? hat))] at g; cases g), rfl⟩ (fun _ => rfl)
   have q1 := hbb.1 z85
   refine ⟨⟨k + 1, by omega, fun i x hi hx => ?_⟩, ?_, by simp only; omega⟩
   · by_cases e : i < k
     · exact hinv i x e hx
     · obtain rfl : i = k := by omega
       rw [hat] at hx
       injection hx with hx
       subst hx
       exact q1
   · exact aC [0, 1] zw1 zw0 zw1 zw5 zw3 rfl rfl
 have hge : s.groups.length ≤ k := by simpa using g
 have vgroups : ∀ (i : Nat) x, s.pure.groups[i]? = some x → fE x := fun i x hx => hinv i x (by have := (List.getElem?_eq_some_iff.1 hx).1; have e : s.pure.groups.length = s.groups.length := mlen _ _; omega) hx
 refine LoopW.mk ⟨{ k : Nat // k ≤ s.barriers.length ∧ ∀ (i : Nat) x, i < k → s.pure.barriers[i]? = some x → dE x ∧ p.pure.barriers[i]? = some x.parties },
   fun k => .mk [(2, .p 0 0), (3, .p 1 0), (8, .v (.int .i64 (k.1 : Int)))] 2 0 [(0, 38, 5), (1, 46, 9)] [((0, 0), .v (p.h0.val p.sems.length)), ((0, 1), .v (p.h1.val p.groups.length)), ((0, 2), .v (p.h2.val p.barriers.length)), ((0, 3), .v (p.h3.val p.rooms.length)), ((0, 4), .v (p.h4.val p.threads.length)), ((1, 0), .v (s.h0.val s.places.length)), ((1, 1), .v (s.h1.val s.status.length)), ((1, 2), .v (s.h2.val s.sems.length)), ((1, 3), .v (s.h3.val s.onces.length)), ((1, 4), .v (s.h4.val s.groups.length)), ((1, 5), .v (s.h5.val s.barriers.length)), ((1, 6), .v (s.h6.val s.chans.length)), ((1, 7), .v (s.h7.val s.said.length)), ((1, 8), .v (.int .i64 s.fault))] [fR (bD p), fR (aJ s)],
   fun k => s.barriers.length - k.1, ⟨0, Nat.zero_le _, fun i x hi => by omega⟩, ?_, ?_⟩
 · exact aC [0, 1] zw2 zw0 zw2 zw5 zw4 rfl rfl
 rintro ⟨k, hk, hinv⟩
 apply CaseB.mk <;> intro g
 · have hlt : k < s.barriers.length := by simpa using g
   have hw := bA k _ hlt (by omega)
   have hat : s.pure.barriers[k]? = some (s.barriers[k]).m := by simp [StateH.pure, hlt]
   have hsm := (cY b5).2 _ (List.getElem_mem hlt)
   unfold Barrier.small20 at hsm
   have hlp : k < p.barriers.length := by omega
   have hpat : p.pure.barriers[k]? = some p.barriers[k] := by simp [ProgH.pure, hlp]
   refine aH aA z88 z88 z88 200 [((0, 2), .v (p.h2.val p.barriers.length)), ((1, 5), .v (s.h5.val s.barriers.length))] [0, 1] [_, _] z107 z116 ⟨rfl, rfl, trivial⟩ rfl ?_
   refine bM (ti := aZ tab) cH aA rfl rfl rfl rfl rfl ⟨rfl, rfl⟩ (aN 1 rfl (.trans (.R_R (bN s)) (.ofR bK))) k rfl z37 (fun ad => ?_)
   refine bV _ cl95 rfl rfl rfl rfl ⟨rfl, rfl⟩ (fun A w hW => oF _ _ w ⟨hW.get 1 rfl (.trans (.R_R (bN s)) (.ofR (fJ _ _ k hlt))), trivial⟩ (by omega)) ?_
   rintro v L ⟨bb, rfl, hbb, rfl⟩
   apply CaseB.mk <;> intro g
   · exact aG ⟨_, rfl, tno fun e => (by rw [hbb.2 ((e.barriers k _ hat).1)] at g; cases g), rfl⟩ (fun _ => rfl)
   have q1 := hbb.1 z85
   refine bM (ti := aZ tab) cH aA rfl rfl rfl rfl rfl ⟨rfl, rfl⟩ (aN 1 rfl (.trans (.R_R (bN s)) (.ofR bK))) k rfl z37 (fun ad1 => ?_)
   refine bM (ti := aZ tab) aI aA rfl rfl rfl rfl rfl ⟨rfl, rfl⟩ (aN 0 rfl (.ofR (fG p))) k rfl z37 (fun ad2 => ?_)
   apply CaseB.mk <;> intro g
   · have q : ¬ (s.barriers[k]).m.parties = p.barriers[k] := by simpa using g
     exact aG ⟨_, rfl, tno fun e => q z45, rfl⟩ (fun _ => rfl)
   have q2 : (s.barriers[k]).m.parties = p.barriers[k] := by simpa using g
   refine ⟨⟨k + 1, by omega, fun i x hi hx => ?_⟩, ?_, by simp only; omega⟩
   · by_cases e : i < k
     · exact hinv i x e hx
     · obtain rfl : i = k := by omega
       rw [hat] at hx
       injection hx with hx
       subst hx
       exact ⟨q1, by rw [hpat, q2]⟩
   · exact aC [0, 1] zw1 zw0 zw1 zw5 zw3 rfl rfl
 have hge : s.barriers.length ≤ k := by simpa using g
 have vbarriers : ∀ (i : Nat) x, s.pure.barriers[i]? = some x → dE x ∧ p.pure.barriers[i]? = some x.parties := fun i x hx => hinv i x (by have := (List.getElem?_eq_some_iff.1 hx).1; have e : s.pure.barriers.length = s.barriers.length := mlen _ _; omega) hx
 refine LoopW.mk ⟨{ k : Nat // k ≤ s.chans.length ∧ ∀ (i : Nat) x, i < k → s.pure.chans[i]? = some x → x.valid = true ∧ p.pure.rooms[i]? = some x.room },
   fun k => .mk [(2, .p 0 0), (3, .p 1 0), (9, .v (.int .i64 (k.1 : Int)))] 2 0 [(0, 38, 5), (1, 46, 9)] [((0, 0), .v (p.h0.val p.sems.length)), ((0, 1), .v (p.h1.val p.groups.length)), ((0, 2), .v (p.h2.val p.barriers.length)), ((0, 3), .v (p.h3.val p.rooms.length)), ((0, 4), .v (p.h4.val p.threads.length)), ((1, 0), .v (s.h0.val s.places.length)), ((1, 1), .v (s.h1.val s.status.length)), ((1, 2), .v (s.h2.val s.sems.length)), ((1, 3), .v (s.h3.val s.onces.length)), ((1, 4), .v (s.h4.val s.groups.length)), ((1, 5), .v (s.h5.val s.barriers.length)), ((1, 6), .v (s.h6.val s.chans.length)), ((1, 7), .v (s.h7.val s.said.length)), ((1, 8), .v (.int .i64 s.fault))] [fR (bD p), fR (aJ s)],
   fun k => s.chans.length - k.1, ⟨0, Nat.zero_le _, fun i x hi => by omega⟩, ?_, ?_⟩
 · exact aC [0, 1] zw2 zw0 zw2 zw5 zw4 rfl rfl
 rintro ⟨k, hk, hinv⟩
 apply CaseB.mk <;> intro g
 · have hlt : k < s.chans.length := by simpa using g
   have hw := bA k _ hlt (by omega)
   have hat : s.pure.chans[k]? = some (s.chans[k]).m := by simp [StateH.pure, hlt]
   have hsm := (cY b6).2 _ (List.getElem_mem hlt)
   unfold Chan.small20 at hsm
   have hlp : k < p.rooms.length := by omega
   have hpat : p.pure.rooms[k]? = some p.rooms[k] := by simp [ProgH.pure, hlp]
   refine aH aA z88 z88 z88 200 [((0, 3), .v (p.h3.val p.rooms.length)), ((1, 6), .v (s.h6.val s.chans.length))] [0, 1] [_, _] z107 z116 ⟨rfl, rfl, trivial⟩ rfl ?_
   refine bM (ti := aZ tab) cX aA rfl rfl rfl rfl rfl ⟨rfl, rfl⟩ (aN 1 rfl (.trans (.R_R (bC s)) (.ofR bK))) k rfl z37 (fun ad => ?_)
   refine bV _ jL0 rfl rfl rfl rfl ⟨rfl, rfl⟩ (fun A w hW => sA _ _ _ _ w ⟨hW.get 1 rfl (.trans (.R_R (bC s)) (.ofR (vP _ _ k hlt))), hW.get 1 rfl (.trans (.R_R (bC s)) (.ofR (lG _ _ k hlt))), hW.get 1 rfl (.trans (.R_R (bC s)) (.ofR (nC _ _ k hlt))), trivial⟩ ⟨by omega, by omega, by omega⟩) ?_
   rintro v L ⟨rfl, rfl⟩
   apply CaseB.mk <;> intro g
   · exact aG ⟨_, rfl, tno fun e => (by rw [(e.chans k _ hat).1] at g; cases g), rfl⟩ (fun _ => rfl)
   have q1 : (s.chans[k]).m.valid = true := by simpa using g
   refine bM (ti := aZ tab) cX aA rfl rfl rfl rfl rfl ⟨rfl, rfl⟩ (aN 1 rfl (.trans (.R_R (bC s)) (.ofR bK))) k rfl z37 (fun ad1 => ?_)
   refine bM (ti := aZ tab) aI aA rfl rfl rfl rfl rfl ⟨rfl, rfl⟩ (aN 0 rfl (.ofR (iF p))) k rfl z37 (fun ad2 => ?_)
   apply CaseB.mk <;> intro g
   · have q : ¬ (s.chans[k]).m.room = p.rooms[k] := by simpa using g
     exact aG ⟨_, rfl, tno fun e => q z47, rfl⟩ (fun _ => rfl)
   have q2 : (s.chans[k]).m.room = p.rooms[k] := by simpa using g
   refine ⟨⟨k + 1, by omega, fun i x hi hx => ?_⟩, ?_, by simp only; omega⟩
   · by_cases e : i < k
     · exact hinv i x e hx
     · obtain rfl : i = k := by omega
       rw [hat] at hx
       injection hx with hx
       subst hx
       exact ⟨q1, by rw [hpat, q2]⟩
   · exact aC [0, 1] zw1 zw0 zw1 zw5 zw3 rfl rfl
 have hge : s.chans.length ≤ k := by simpa using g
 have vchans : ∀ (i : Nat) x, s.pure.chans[i]? = some x → x.valid = true ∧ p.pure.rooms[i]? = some x.room := fun i x hx => hinv i x (by have := (List.getElem?_eq_some_iff.1 hx).1; have e : s.pure.chans.length = s.chans.length := mlen _ _; omega) hx
 have mm : ∀ {α : Type} {xs : List α} {q : α → Prop}, (∀ (i : Nat) x, xs[i]? = some x → q x) → ∀ x ∈ xs, q x := fun h x hx => by
   obtain ⟨i, hi⟩ := List.getElem?_of_mem hx
   exact h i x hi
 have n := fun {α β γ δ : Type} (f : α → β) (g : γ → δ) {xs : List α} {ys : List γ} (e : xs.length = ys.length) => (show (xs.map f).length = (ys.map g).length by simp [e])
 exact aG ⟨_, rfl, vR ⟨by simpa [StateH.pure, ProgH.pure] using c2, by simpa [StateH.pure, ProgH.pure] using c4, by simpa [StateH.pure, ProgH.pure] using c5, by simpa [StateH.pure, ProgH.pure] using c6, by simpa [StateH.pure, ProgH.pure] using c3, vsems, mm vgroups, vbarriers, vchans, mm vonces⟩, rfl⟩ (fun _ => rfl)
theorem uP (xs : List Int) (t : Int) (h : 0 ≤ atM xs t) : xs[(atM xs t).toNat]? = some t := by
 induction xs with
 | nil => simp [atM] at h
 | cons x r ih =>
   simp only [atM] at h ⊢
   by_cases e : x = t
   · simp [e]
   · simp only [e, if_false] at h ⊢
     by_cases e2 : atM r t < 0
     · rw [if_pos e2] at h; omega
     · rw [if_neg e2] at h ⊢
       have e3 : (atM r t + 1).toNat = (atM r t).toNat + 1 := by omega
       rw [e3, List.getElem?_cons_succ]
       exact ih (by omega)
theorem lI0 {α : Type} {f : α → Int} {l : List α} {t a : Int} (hd : (l.map f).Nodup) (ha : a = atM (l.map f) t) (x : α) : (x ∈ l ∧ f x = t) ↔ (l[a.toNat]? = some x ∧ 0 ≤ a) := by
 subst ha
 constructor
 · rintro ⟨hm, hx⟩
   have h0 : 0 ≤ atM (l.map f) t := (dU _ _).2 (hx ▸ List.mem_map_of_mem hm)
   have h1 := uP _ _ h0
   obtain ⟨i, hi, rfl⟩ := List.getElem_of_mem hm
   have h2 : (l.map f)[i]? = some t := by simp [hi, hx]
   have h3 := (List.getElem?_eq_some_iff.1 h1).1
   have := (List.getElem?_inj h3 hd).1 (h1.trans h2.symm)
   rw [this]
   exact ⟨List.getElem?_eq_getElem hi, h0⟩
 · rintro ⟨h1, h0⟩
   refine ⟨List.mem_of_getElem? h1, ?_⟩
   have h2 := uP _ _ h0
   rw [List.getElem?_map, h1] at h2
   simpa using h2
theorem aR0 (i : Sl) (xs : List Waiter) (t : Int) (w : World) (h : At w [slo i dL 2 xs]) (hb : xs.length ≤ 1048576) :
   Calls Tryz.prog 125 #[i.val xs.length, .int .i64 t] w (Ret w fun v L => ∃ a : Int, v = .int .i64 a ∧ a = atM (xs.map (·.t)) t ∧ L = []) := by
 refine cN Tryz.func125 rfl aA w _ rfl _ rfl _ h ⟨rfl, rfl, trivial⟩ _ _ (by decide) ?_
 have hlen : (xs.map (·.t)).length = xs.length := by simp
 refine LoopW.mk ⟨{ k : Nat // k ≤ xs.length ∧ t ∉ (xs.map (·.t)).take k },
   fun p => .mk [(0, .v (i.val xs.length)), (1, .v (.int .i64 t)), (5, .v (.int .i64 p.1))] 0 0 [] [] [slo i dL 2 xs],
   fun p => xs.length - p.1, ⟨0, Nat.zero_le _, by simp⟩, ?_, ?_⟩
 · exact aC [0] zw2 zw0 zw2 zw5 zw4 rfl rfl
 · rintro ⟨k, hk, he⟩
   refine CaseB.mk (fun h => ?_) (fun h => ?_)
   · have hlt : k < xs.length := by simpa using h
     have hlt2 : k < (xs.map (·.t)).length := by rw [hlen]; exact hlt
     refine aF cW aA rfl rfl rfl rfl rfl ⟨rfl, rfl⟩ z31 k rfl z37 (fun ad => ?_)
     refine CaseB.mk (fun h => ?_) (fun h => ?_)
     · have heq : (xs[k]).t = t := by simpa using h
       exact aG ⟨_, rfl, (bR0 hlt2 he (by simpa using heq)).symm, rfl⟩ (fun _ => rfl)
     · have hne : (xs[k]).t ≠ t := by simpa using h
       have hw := oD k _ hlt (by omega)
       refine ⟨⟨k + 1, by omega, iS hlt2 he (by simpa using hne)⟩, ?_, by simp; omega⟩
       exact aC [0] zw1 zw0 zw1 zw5 zw3 rfl rfl
   · have hge : xs.length ≤ k := by simpa using h
     rw [List.take_of_length_le (by omega)] at he
     exact aG ⟨_, rfl, (vI he).symm, rfl⟩ (fun _ => rfl)
def eH (s : State) (o : Op) (t : Int) : Prop :=
 if o.kind = 2 then ∃ x, s.sems[o.on.toNat]? = some x ∧ ⟨t, o.arg⟩ ∈ x.queue
 else if o.kind = 4 then ∃ x, s.onces[o.on.toNat]? = some x ∧ t ∈ x.waits
 else if o.kind = 6 then ∃ x, s.groups[o.on.toNat]? = some x ∧ t ∈ x.waits
 else if o.kind = 7 then ∃ x, s.barriers[o.on.toNat]? = some x ∧ t ∈ x.waits
 else if o.kind = 8 then ∃ x, s.chans[o.on.toNat]? = some x ∧ ⟨t, o.arg⟩ ∈ x.senders
 else if o.kind = 9 then ∃ x, s.chans[o.on.toNat]? = some x ∧ t ∈ x.getters
 else False
theorem only {α : Type} {xs : List α} {n : Nat} {y : α} (h : xs[n]? = some y) {q : α → Prop} : (∃ x, xs[n]? = some x ∧ q x) ↔ q y :=
 ⟨fun ⟨x, hx, hq⟩ => by rw [h] at hx; injection hx with hx; exact hx ▸ hq, fun hq => ⟨y, h, hq⟩⟩
theorem jZ0 (p : Prog) (s : StateH) (o : Op) (t : Int) (w : World) (h : At w [fR (aJ s)]) (hs : SharedOk p s.pure) (ho : OpOk p o) :
   Calls Tryz.prog 98 #[aM s, .agg (cOp o).toArray, .int .i64 t] w (gC w (eH s.pure o t)) := by
 obtain ⟨s1, s2, s3, s4, s5, s6, s7, s8, s9, s10⟩ := hs
 have mlen : ∀ {α β : Type} (f : α → β) (xs : List α), (xs.map f).length = xs.length := fun f xs => by simp
 have l2 : s.pure.sems.length = s.sems.length := mlen _ _
 have l3 : s.pure.onces.length = s.onces.length := mlen _ _
 have l4 : s.pure.groups.length = s.groups.length := mlen _ _
 have l5 : s.pure.barriers.length = s.barriers.length := mlen _ _
 have l6 : s.pure.chans.length = s.chans.length := mlen _ _
 refine mF Tryz.func98 rfl aA w _ rfl _ rfl _ h ⟨rfl, rfl, trivial⟩ _ _ _ (by decide) ?_
 refine CaseB.mk (fun g => ?_) (fun g2 => ?_)
 · have k2 : o.kind = 2 := by simpa using g
   obtain ⟨⟨o0, o1⟩, _⟩ := (gX0 (.inl k2)).1 ho
   have hlt : o.on.toNat < s.sems.length := by omega
   have hat : s.pure.sems[o.on.toNat]? = some (s.sems[o.on.toNat]).m := by simp [StateH.pure, hlt]
   have hok := (s6 _ _ hat).1
   have hq := hok.q6
   refine aF dV aA rfl rfl rfl rfl rfl ⟨rfl, rfl⟩ (aN 0 rfl (.trans (.R_R (cI s)) (.ofR bK))) o.on.toNat (by omega) z37 (fun ad => ?_)
   refine aB _ kR0 rfl rfl rfl rfl ⟨rfl, rfl⟩ (fun A w hW => aR0 _ _ t w ⟨hW.get 0 rfl (.trans (.R_R (cI s)) (.ofR (nO _ _ _ hlt))), trivial⟩ (by omega)) ?_
   rintro v L ⟨a, rfl, ha, rfl⟩
   have hin := lI0 (f := (·.t)) (by have := hok.dis; simp only [aS, decide_eq_true_eq] at this; exact this.1) ha (⟨t, o.arg⟩ : Waiter)
   have hQ : eH s.pure o t ↔ ((s.sems[o.on.toNat]).m.queue[a.toNat]? = some ⟨t, o.arg⟩ ∧ 0 ≤ a) := by
     rw [← hin, eH, if_pos k2, only hat]; simp
   refine aH aA z88 z88 z88 200 [((0, 2), .v (s.h2.val s.sems.length)), ((1, 1), .v (.int .i64 o.on)), ((1, 2), .v (.int .i64 o.arg))] [0] [_] z102 z113 ⟨rfl, trivial⟩ rfl ?_
   apply CaseB.mk <;> intro g
   · have a0 : 0 ≤ a := by simpa using g
     have hg := uP _ t (ha ▸ a0)
     rw [← ha, List.getElem?_map] at hg
     have hl : a.toNat < (s.sems[o.on.toNat]).m.queue.length := by
       refine Classical.byContradiction fun n => ?_
       rw [List.getElem?_eq_none (by omega)] at hg; simp at hg
     rw [List.getElem?_eq_getElem hl] at hg
     have ht : ((s.sems[o.on.toNat]).m.queue[a.toNat]).t = t := by simpa using hg
     refine bM (ti := aZ tab) dV aA rfl rfl rfl rfl rfl ⟨rfl, rfl⟩ (aN 0 rfl (.trans (.R_R (cI s)) (.ofR bK))) o.on.toNat (by omega) z37 (fun ad1 => ?_)
     refine bM (ti := aZ tab) cW aA rfl rfl rfl rfl rfl ⟨rfl, rfl⟩ (aN 0 rfl (.trans (.R_R (cI s)) (.ofR (nO _ _ _ hlt)))) a.toNat (by omega) z37 (fun ad2 => ?_)
     refine aG ⟨_, rfl, ?_, rfl⟩ (fun _ => rfl)
     rw [hQ, List.getElem?_eq_getElem hl, beq_iff_eq]
     constructor
     · intro e
       refine ⟨?_, a0⟩
       rw [← ht, ← e]
     · rintro ⟨e, _⟩
       injection e with e
       rw [e]
   · have a0 : ¬ 0 ≤ a := by simpa using g
     exact aG ⟨_, rfl, tno fun e => a0 (hQ.1 e).2, rfl⟩ (fun _ => rfl)
 have n2 : ¬ o.kind = 2 := by simpa using g2
 refine CaseB.mk (fun g => ?_) (fun g4 => ?_)
 · have k4 : o.kind = 4 := by simpa using g
   obtain ⟨o0, o1, _⟩ := (gY0 k4).1 ho
   have hlt : o.on.toNat < s.onces.length := by omega
   have hat : s.pure.onces[o.on.toNat]? = some (s.onces[o.on.toNat]).m := by simp [StateH.pure, hlt]
   have hq := eD (s10 _ (List.mem_of_getElem? hat))
   have hQ : eH s.pure o t ↔ t ∈ (s.onces[o.on.toNat]).m.waits := by
     simp only [eH, k4]
     exact only hat
   refine aF dM aA rfl rfl rfl rfl rfl ⟨rfl, rfl⟩ (aN 0 rfl (.trans (.R_R (cF s)) (.ofR bK))) o.on.toNat (by omega) z37 (fun ad => ?_)
   refine aB _ lO rfl rfl rfl rfl ⟨rfl, rfl⟩ (fun A w hW => iT _ _ t w ⟨hW.get 0 rfl (.trans (.R_R (cF s)) (.ofR (lF _ _ _ hlt))), trivial⟩ (by omega)) ?_
   rintro v L ⟨rfl, rfl⟩
   exact aG ⟨_, rfl, by rw [hQ, decide_eq_true_eq]; exact dU _ _, rfl⟩ (fun _ => rfl)
 have n4 : ¬ o.kind = 4 := by simpa using g4
 refine CaseB.mk (fun g => ?_) (fun g6 => ?_)
 · have k6 : o.kind = 6 := by simpa using g
   obtain ⟨⟨o0, o1⟩, _⟩ := (lE0 k6).1 ho
   have hlt : o.on.toNat < s.groups.length := by omega
   have hat : s.pure.groups[o.on.toNat]? = some (s.groups[o.on.toNat]).m := by simp [StateH.pure, hlt]
   have hq := gF (s7 _ (List.mem_of_getElem? hat))
   have hQ : eH s.pure o t ↔ t ∈ (s.groups[o.on.toNat]).m.waits := by
     simp only [eH, k6]
     exact only hat
   refine aF cP aA rfl rfl rfl rfl rfl ⟨rfl, rfl⟩ (aN 0 rfl (.trans (.R_R (bZ s)) (.ofR bK))) o.on.toNat (by omega) z37 (fun ad => ?_)
   refine aB _ lO rfl rfl rfl rfl ⟨rfl, rfl⟩ (fun A w hW => iT _ _ t w ⟨hW.get 0 rfl (.trans (.R_R (bZ s)) (.ofR (iE _ _ _ hlt))), trivial⟩ (by omega)) ?_
   rintro v L ⟨rfl, rfl⟩
   exact aG ⟨_, rfl, by rw [hQ, decide_eq_true_eq]; exact dU _ _, rfl⟩ (fun _ => rfl)
 have n6 : ¬ o.kind = 6 := by simpa using g6
 refine CaseB.mk (fun g => ?_) (fun g7 => ?_)
 · have k7 : o.kind = 7 := by simpa using g
   obtain ⟨⟨o0, o1⟩, _⟩ := (lF0 k7).1 ho
   have hlt : o.on.toNat < s.barriers.length := by omega
   have hat : s.pure.barriers[o.on.toNat]? = some (s.barriers[o.on.toNat]).m := by simp [StateH.pure, hlt]
   have hq := fZ (s8 _ _ hat).1
   have hQ : eH s.pure o t ↔ t ∈ (s.barriers[o.on.toNat]).m.waits := by
     simp only [eH, k7]
     exact only hat
   refine aF cH aA rfl rfl rfl rfl rfl ⟨rfl, rfl⟩ (aN 0 rfl (.trans (.R_R (bN s)) (.ofR bK))) o.on.toNat (by omega) z37 (fun ad => ?_)
   refine aB _ lO rfl rfl rfl rfl ⟨rfl, rfl⟩ (fun A w hW => iT _ _ t w ⟨hW.get 0 rfl (.trans (.R_R (bN s)) (.ofR (fJ _ _ _ hlt))), trivial⟩ (by omega)) ?_
   rintro v L ⟨rfl, rfl⟩
   exact aG ⟨_, rfl, by rw [hQ, decide_eq_true_eq]; exact dU _ _, rfl⟩ (fun _ => rfl)
 have n7 : ¬ o.kind = 7 := by simpa using g7
 refine CaseB.mk (fun g => ?_) (fun g8 => ?_)
 · have k8 : o.kind = 8 := by simpa using g
   obtain ⟨⟨o0, o1⟩, _⟩ := (lG0 k8).1 ho
   have hlt : o.on.toNat < s.chans.length := by omega
   have hat : s.pure.chans[o.on.toNat]? = some (s.chans[o.on.toNat]).m := by simp [StateH.pure, hlt]
   have hok := (s9 _ _ hat).1
   have hq := lH hok
   have hdi : ((s.chans[o.on.toNat]).m.senders.map (·.t)).Nodup := by
     have hv : (s.chans[o.on.toNat]).m.Valid := by simpa [Chan.valid] using hok
     have hd := hv.di
     unfold aS at hd
     have hd2 := of_decide_eq_true hd
     exact (List.nodup_append.1 hd2.1).1
   refine aF cX aA rfl rfl rfl rfl rfl ⟨rfl, rfl⟩ (aN 0 rfl (.trans (.R_R (bC s)) (.ofR bK))) o.on.toNat (by omega) z37 (fun ad => ?_)
   refine aB _ jM0 rfl rfl rfl rfl ⟨rfl, rfl⟩ (fun A w hW => lT _ _ w ⟨hW.get 0 rfl (.trans (.R_R (bC s)) (.ofR (lG _ _ _ hlt))), trivial⟩ (by omega)) ?_
   rw [List.take_of_length_le (by omega)]
   rintro v L ⟨y, rfl, rfl⟩
   refine aB _ lO rfl rfl rfl rfl ⟨rfl, rfl⟩ (fun A w hW => iT y _ t w ⟨hW.get 0 rfl .own, trivial⟩ z87) ?_
   rintro v L ⟨rfl, rfl⟩
   obtain ⟨a, ha⟩ : ∃ a, a = atM ((s.chans[o.on.toNat]).m.senders.map Letter.t) t := ⟨_, rfl⟩
   rw [← ha]
   have hin := lI0 (f := Letter.t) hdi ha (⟨t, o.arg⟩ : Letter)
   have hQ : eH s.pure o t ↔ ((s.chans[o.on.toNat]).m.senders[a.toNat]? = some ⟨t, o.arg⟩ ∧ 0 ≤ a) := by
     rw [← hin]
     simp only [eH, k8]
     exact (only hat).trans (by simp)
   refine aH aA z88 z88 z88 200 [((0, 6), .v (s.h6.val s.chans.length)), ((1, 1), .v (.int .i64 o.on)), ((1, 2), .v (.int .i64 o.arg))] [1] [_] z102 z113 ⟨rfl, trivial⟩ rfl ?_
   apply CaseB.mk <;> intro g
   · have a0 : 0 ≤ a := by simpa using g
     have hg := uP _ t (ha ▸ a0)
     rw [← ha, List.getElem?_map] at hg
     have hl : a.toNat < (s.chans[o.on.toNat]).m.senders.length := by
       refine Classical.byContradiction fun n => ?_
       rw [List.getElem?_eq_none (by omega)] at hg; simp at hg
     rw [List.getElem?_eq_getElem hl] at hg
     have ht : ((s.chans[o.on.toNat]).m.senders[a.toNat]).t = t := by simpa using hg
     refine bM (ti := aZ tab) cX aA rfl rfl rfl rfl rfl ⟨rfl, rfl⟩ (aN 0 rfl (.trans (.R_R (bC s)) (.ofR bK))) o.on.toNat (by omega) z37 (fun ad1 => ?_)
     refine bM (ti := aZ tab) jZ aA rfl rfl rfl rfl rfl ⟨rfl, rfl⟩ (aN 0 rfl (.trans (.R_R (bC s)) (.ofR (lG _ _ _ hlt)))) a.toNat (by omega) z37 (fun ad2 => ?_)
     refine aG ⟨_, rfl, ?_, rfl⟩ (fun _ => rfl)
     rw [hQ, List.getElem?_eq_getElem hl, beq_iff_eq]
     constructor
     · intro e
       refine ⟨?_, a0⟩
       rw [← ht, ← e]
     · rintro ⟨e, _⟩
       injection e with e
       rw [e]
   · have a0 : ¬ 0 ≤ a := by simpa using g
     exact aG ⟨_, rfl, tno fun e => a0 (hQ.1 e).2, rfl⟩ (fun _ => rfl)
 have n8 : ¬ o.kind = 8 := by simpa using g8
 refine CaseB.mk (fun g => ?_) (fun g9 => ?_)
 · have k9 : o.kind = 9 := by simpa using g
   obtain ⟨⟨o0, o1⟩, _⟩ := (gZ0 (.inl k9)).1 ho
   have hlt : o.on.toNat < s.chans.length := by omega
   have hat : s.pure.chans[o.on.toNat]? = some (s.chans[o.on.toNat]).m := by simp [StateH.pure, hlt]
   have hq := lH (s9 _ _ hat).1
   have hQ : eH s.pure o t ↔ t ∈ (s.chans[o.on.toNat]).m.getters := by
     simp only [eH, k9]
     exact only hat
   refine aF cX aA rfl rfl rfl rfl rfl ⟨rfl, rfl⟩ (aN 0 rfl (.trans (.R_R (bC s)) (.ofR bK))) o.on.toNat (by omega) z37 (fun ad => ?_)
   refine aB _ lO rfl rfl rfl rfl ⟨rfl, rfl⟩ (fun A w hW => iT _ _ t w ⟨hW.get 0 rfl (.trans (.R_R (bC s)) (.ofR (nC _ _ _ hlt))), trivial⟩ (by omega)) ?_
   rintro v L ⟨rfl, rfl⟩
   exact aG ⟨_, rfl, by rw [hQ, decide_eq_true_eq]; exact dU _ _, rfl⟩ (fun _ => rfl)
 have n9 : ¬ o.kind = 9 := by simpa using g9
 exact aG ⟨_, rfl, tno fun e => (by simp [eH, n2, n4, n6, n7, n8, n9] at e), rfl⟩ (fun _ => rfl)
theorem cH0 (m : Once) (q : Sl) (t : Int) (w : World) (h : At w [slo q aL 1 m.waits]) (hb : m.waits.length ≤ 1048576) :
   Calls Tryz.prog 99 #[lV m q, .int .i64 t] w (gC w (cS m ∧ m.state = 1 ∧ m.owner = t)) := by
 refine cN Tryz.func99 rfl aA w _ rfl _ rfl _ h ⟨rfl, rfl, trivial⟩ _ _ (by decide) ?_
 refine aB _ jK0 rfl rfl rfl rfl ⟨rfl, rfl⟩ (fun A w hW => kN m q w ⟨hW.get 0 rfl (.refl _), trivial⟩ hb) ?_
 rintro v L ⟨b, rfl, hb2, rfl⟩
 apply CaseB.mk <;> intro g
 · have ok := hb2.1 z85
   apply CaseB.mk <;> intro g
   · have s1 : m.state = 1 := by simpa using g
     exact aG ⟨_, rfl, by simp [ok, s1], rfl⟩ (fun _ => rfl)
   · have s1 : ¬ m.state = 1 := by simpa using g
     exact aG ⟨_, rfl, tno fun e => s1 e.2.1, rfl⟩ (fun _ => rfl)
 · exact aG ⟨_, rfl, tno fun e => (by rw [hb2.2 e.1] at g; cases g), rfl⟩ (fun _ => rfl)
def mA (s : State) (ops : List Op) (t at_ st q : Int) : Prop :=
 0 ≤ at_ ∧ at_ ≤ ops.length ∧ ((at_ = ops.length ∧ st = 3 ∧ q = 0) ∨
   ∃ op, ops[at_.toNat]? = some op ∧ ((st = 0 ∧ q = 0) ∨ (st = 1 ∧ q = 1 ∧ eH s op t) ∨ (st = 2 ∧ q = 0 ∧ op.kind = 4 ∧ ∃ x, s.onces[op.on.toNat]? = some x ∧ x.state = 1 ∧ x.owner = t)))
theorem hM0 (p : ProgH) (s : StateH) (t : Nat) (q : Int) (w : World) (h : At w [fR (bD p), fR (aJ s)]) (ok : ProgOk p.pure) (sh : SharedOk p.pure s.pure)
   (c0 : s.places.length = p.threads.length) (c1 : s.status.length = p.threads.length) (ht : t < p.threads.length) :
   Calls Tryz.prog 53 #[eJ p, aM s, .int .i64 t, .int .i64 q] w (gC w (mA s.pure (p.threads[t]).m t s.places[t] s.status[t] q)) := by
 have l3 : s.pure.onces.length = s.onces.length := by simp [StateH.pure]
 have hmem : (p.threads[t]).m ∈ p.pure.threads := List.mem_map_of_mem (List.getElem_mem ht)
 have l8 := (ok.ops _ hmem).1
 refine lR0 Tryz.func53 rfl aA w _ rfl _ rfl _ h ⟨rfl, rfl, rfl, rfl, trivial⟩ _ _ _ _ (by decide) ?_
 refine aF aI aA rfl rfl rfl rfl rfl ⟨rfl, rfl⟩ (aN 1 rfl (.ofR (fY s))) t rfl z37 (fun ad0 => ?_)
 apply CaseB.mk <;> intro g
 · have n : ¬ 0 ≤ s.places[t] := by have g' := of_decide_eq_true g; omega
   exact aG ⟨_, rfl, tno fun e => n e.1, rfl⟩ (fun _ => rfl)
 have a0 : 0 ≤ s.places[t] := by have g' := of_decide_eq_false g; omega
 refine aF eR aA rfl rfl rfl rfl rfl ⟨rfl, rfl⟩ (aN 0 rfl (.trans (.R_R (bE p)) (.ofR bK))) t rfl z37 (fun ad1 => ?_)
 apply CaseB.mk <;> intro g
 · have n : ¬ s.places[t] ≤ (p.threads[t]).m.length := by have g' := of_decide_eq_true g; omega
   exact aG ⟨_, rfl, tno fun e => n e.2.1, rfl⟩ (fun _ => rfl)
 have hz : s.places[t] = ((s.places[t]).toNat : Int) := (Int.toNat_of_nonneg a0).symm
 have a1 : s.places[t] ≤ (p.threads[t]).m.length := by have g' := of_decide_eq_false g; omega
 refine aF eR aA rfl rfl rfl rfl rfl ⟨rfl, rfl⟩ (aN 0 rfl (.trans (.R_R (bE p)) (.ofR bK))) t rfl z37 (fun ad2 => ?_)
 apply CaseB.mk <;> intro g
 · have ae : s.places[t] = (p.threads[t]).m.length := by simpa using g
   have hT : mA s.pure (p.threads[t]).m t s.places[t] s.status[t] q ↔ s.status[t] = 3 ∧ q = 0 := by
     constructor
     · rintro ⟨_, _, h | ⟨op, h, _⟩⟩
       · exact h.2
       · have := (List.getElem?_eq_some_iff.1 h).1; omega
     · intro h; exact ⟨a0, a1, .inl ⟨ae, h⟩⟩
   refine aF aI aA rfl rfl rfl rfl rfl ⟨rfl, rfl⟩ (aN 1 rfl (.ofR (cR s))) t rfl z37 (fun ad3 => ?_)
   apply CaseB.mk <;> intro g
   · have s3 : s.status[t] = 3 := by simpa using g
     exact aG ⟨_, rfl, by rw [hT]; simp [s3], rfl⟩ (fun _ => rfl)
   · have s3 : ¬ s.status[t] = 3 := by simpa using g
     exact aG ⟨_, rfl, tno fun e => s3 (hT.1 e).1, rfl⟩ (fun _ => rfl)
 have ane : ¬ s.places[t] = (p.threads[t]).m.length := by simpa using g
 have hlo : (s.places[t]).toNat < (p.threads[t]).m.length := by omega
 obtain ⟨op, hop⟩ : ∃ op, (p.threads[t]).m[(s.places[t]).toNat]? = some op := ⟨_, List.getElem?_eq_getElem hlo⟩
 have hopg : (p.threads[t]).m[(s.places[t]).toNat] = op := by rw [List.getElem?_eq_getElem hlo] at hop; injection hop
 have hopok : OpOk p.pure op := (ok.ops _ hmem).2 _ (List.mem_of_getElem? hop)
 have hT : mA s.pure (p.threads[t]).m t s.places[t] s.status[t] q ↔ ((s.status[t] = 0 ∧ q = 0) ∨ (s.status[t] = 1 ∧ q = 1 ∧ eH s.pure op t) ∨ (s.status[t] = 2 ∧ q = 0 ∧ op.kind = 4 ∧ ∃ x, s.pure.onces[op.on.toNat]? = some x ∧ x.state = 1 ∧ x.owner = t)) := by
   constructor
   · rintro ⟨_, _, h | ⟨op', h, h2⟩⟩
     · exact (ane h.1).elim
     · rw [hop] at h; injection h with h; subst h; exact h2
   · intro h; exact ⟨a0, a1, .inr ⟨op, hop, h⟩⟩
 refine aF eR aA rfl rfl rfl rfl rfl ⟨rfl, rfl⟩ (aN 0 rfl (.trans (.R_R (bE p)) (.ofR bK))) t rfl z37 (fun ad3 => ?_)
 refine aF oX aA rfl rfl rfl rfl rfl ⟨rfl, rfl⟩ (aN 0 rfl (.trans (.R_R (bE p)) (.ofR (gD _ _ t ht)))) (s.places[t]).toNat (by first | exact hz | exact hz.symm | exact congrArg _ hz) z37 (fun ad4 => ?_)
 rw [hopg]
 refine aF aI aA rfl rfl rfl rfl rfl ⟨rfl, rfl⟩ (aN 1 rfl (.ofR (cR s))) t rfl z37 (fun ad5 => ?_)
 refine CaseB.mk (fun g => ?_) (fun g0 => ?_)
 · have s0 : s.status[t] = 0 := by simpa using g
   exact aG ⟨_, rfl, by rw [hT, s0]; simp, rfl⟩ (fun _ => rfl)
 have n0 : ¬ s.status[t] = 0 := by simpa using g0
 refine CaseB.mk (fun g => ?_) (fun g1 => ?_)
 · have s1 : s.status[t] = 1 := by simpa using g
   apply CaseB.mk <;> intro g
   · have q1 : q = 1 := by simpa using g
     refine aB _ cl98 rfl rfl rfl rfl ⟨rfl, rfl⟩ (fun A w hW => jZ0 p.pure s op t w ⟨hW.get 1 rfl (.refl _), trivial⟩ sh hopok) ?_
     rintro v L ⟨b, rfl, hb, rfl⟩
     exact aG ⟨_, rfl, by rw [hT, s1, q1, hb]; simp, rfl⟩ (fun _ => rfl)
   · have q1 : ¬ q = 1 := by simpa using g
     exact aG ⟨_, rfl, tno fun e => (by rcases hT.1 e with h | h | h; exact n0 h.1; exact q1 h.2.1; rw [s1] at h; exact absurd h.1 (by decide)), rfl⟩ (fun _ => rfl)
 have n1 : ¬ s.status[t] = 1 := by simpa using g1
 refine CaseB.mk (fun g => ?_) (fun g2 => ?_)
 · have s2 : s.status[t] = 2 := by simpa using g
   have hT2 : mA s.pure (p.threads[t]).m t s.places[t] s.status[t] q ↔ (q = 0 ∧ op.kind = 4 ∧ ∃ x, s.pure.onces[op.on.toNat]? = some x ∧ x.state = 1 ∧ x.owner = t) := by
     rw [hT, s2]; simp
   apply CaseB.mk <;> intro g
   · have q0 : q = 0 := by simpa using g
     apply CaseB.mk <;> intro g
     · have k4 : op.kind = 4 := by simpa using g
       obtain ⟨o0, o1, _⟩ := (gY0 k4).1 hopok
       have hl3 := sh.lonces
       have hlt : op.on.toNat < s.onces.length := by omega
       have hat : s.pure.onces[op.on.toNat]? = some (s.onces[op.on.toNat]).m := by simp [StateH.pure, hlt]
       have hok := sh.onces _ (List.mem_of_getElem? hat)
       have hq := eD hok
       refine aF dM aA rfl rfl rfl rfl rfl ⟨rfl, rfl⟩ (aN 1 rfl (.trans (.R_R (cF s)) (.ofR bK))) op.on.toNat (by omega) z37 (fun ad6 => ?_)
       refine aB _ lY0 rfl rfl rfl rfl ⟨rfl, rfl⟩ (fun A w hW => cH0 _ _ t w ⟨hW.get 1 rfl (.trans (.R_R (cF s)) (.ofR (lF _ _ _ hlt))), trivial⟩ (by omega)) ?_
       rintro v L ⟨b, rfl, hb, rfl⟩
       exact aG ⟨_, rfl, by rw [hT2, hb, only hat]; simp [q0, k4, hok], rfl⟩ (fun _ => rfl)
     · have k4 : ¬ op.kind = 4 := by simpa using g
       exact aG ⟨_, rfl, tno fun e => k4 (hT2.1 e).2.1, rfl⟩ (fun _ => rfl)
   · have q0 : ¬ q = 0 := by simpa using g
     exact aG ⟨_, rfl, tno fun e => q0 (hT2.1 e).1, rfl⟩ (fun _ => rfl)
 have n2 : ¬ s.status[t] = 2 := by simpa using g2
 exact aG ⟨_, rfl, tno fun e => (by rcases hT.1 e with h | h | h; exact n0 h.1; exact n1 h.1; exact n2 h.1), rfl⟩ (fun _ => rfl)
def mH0 (p : Prog) (s : State) (i : Nat) (x : Once) : Prop := x.state = 1 → ∃ t : Nat, x.owner = t ∧ ∃ ops at_ op, p.threads[t]? = some ops ∧ s.status[t]? = some 2 ∧ s.places[t]? = some at_ ∧ ops[at_.toNat]? = some op ∧ op.on = i
def dU0 (p : Prog) (s : State) : Prop := ∀ (i : Nat) x, s.onces[i]? = some x → mH0 p s i x
theorem hN0 (p : ProgH) (s : StateH) (w : World) (h : At w [fR (bD p), fR (aJ s)]) (ok : ProgOk p.pure) (sh : SharedOk p.pure s.pure)
   (c0 : s.places.length = p.threads.length) (c1 : s.status.length = p.threads.length)
   (hst : ∀ (t : Nat) (ht : t < p.threads.length), s.status[t] = 2 → 0 ≤ s.places[t] ∧ s.places[t] < (p.threads[t]).m.length) :
   Calls Tryz.prog 54 #[eJ p, aM s] w (gC w (dU0 p.pure s.pure)) := by
 have l3 : s.pure.onces.length = s.onces.length := by simp [StateH.pure]
 have hl3 := sh.lonces
 have n4 : p.threads.length ≤ 4 := by have := ok.n4; simpa [ProgH.pure] using this
 refine cN Tryz.func54 rfl aA w _ rfl _ rfl _ h ⟨rfl, rfl, rfl, rfl, trivial⟩ _ _ (by decide) ?_
 refine LoopW.mk ⟨{ k : Nat // k ≤ s.onces.length ∧ ∀ (i : Nat) x, i < k → s.pure.onces[i]? = some x → mH0 p.pure s.pure i x },
   fun k => .mk [(2, .p 0 0), (3, .p 1 0), (5, .v (.int .i64 (k.1 : Int)))] 2 0 [(0, 38, 5), (1, 46, 9)] [((0, 0), .v (p.h0.val p.sems.length)), ((0, 1), .v (p.h1.val p.groups.length)), ((0, 2), .v (p.h2.val p.barriers.length)), ((0, 3), .v (p.h3.val p.rooms.length)), ((0, 4), .v (p.h4.val p.threads.length)), ((1, 0), .v (s.h0.val s.places.length)), ((1, 1), .v (s.h1.val s.status.length)), ((1, 2), .v (s.h2.val s.sems.length)), ((1, 3), .v (s.h3.val s.onces.length)), ((1, 4), .v (s.h4.val s.groups.length)), ((1, 5), .v (s.h5.val s.barriers.length)), ((1, 6), .v (s.h6.val s.chans.length)), ((1, 7), .v (s.h7.val s.said.length)), ((1, 8), .v (.int .i64 s.fault))] [fR (bD p), fR (aJ s)],
   fun k => s.onces.length - k.1, ⟨0, Nat.zero_le _, fun i x hi => by omega⟩, ?_, ?_⟩
 · exact aC [0, 1] zw2 zw0 zw2 zw5 zw4 rfl rfl
 rintro ⟨k, hk, hinv⟩
 apply CaseB.mk <;> intro g
 · have hlt : k < s.onces.length := by simpa using g
   have hw := bA k _ hlt (by omega)
   have hat : s.pure.onces[k]? = some (s.onces[k]).m := by simp [StateH.pure, hlt]
   have hok := sh.onces _ (List.mem_of_getElem? hat)
   refine aF dM aA rfl rfl rfl rfl rfl ⟨rfl, rfl⟩ (aN 1 rfl (.trans (.R_R (cF s)) (.ofR bK))) k rfl z37 (fun ad => ?_)
   apply CaseB.mk <;> intro g
   · have n : ¬ (s.onces[k]).m.state = 1 := by simpa using g
     refine ⟨⟨k + 1, by omega, fun i x hi hx => ?_⟩, ?_, by simp only; omega⟩
     · by_cases e : i < k
       · exact hinv i x e hx
       · obtain rfl : i = k := by omega
         rw [hat] at hx
         injection hx with hx
         subst hx
         exact fun e => (n e).elim
     · exact aC [0, 1] zw1 zw0 zw1 zw5 zw3 rfl rfl
   have r1 : (s.onces[k]).m.state = 1 := by simpa using g
   have w0 : 0 ≤ (s.onces[k]).m.owner := by
     rcases hok with h | h | h
     · omega
     · have h2 := h.2.1; simp [aW] at h2; omega
     · omega
   obtain ⟨t, hz⟩ : ∃ t : Nat, (s.onces[k]).m.owner = (t : Int) := ⟨_, (Int.toNat_of_nonneg w0).symm⟩
   refine aH aA z88 z88 z88 200 [((0, 4), .v (p.h4.val p.threads.length)), ((1, 0), .v (s.h0.val s.places.length)), ((1, 1), .v (s.h1.val s.status.length)), ((2, 1), .v (.int .i64 (s.onces[k]).m.owner))] [0, 1] [_, _] z98 z110 ⟨rfl, rfl, trivial⟩ rfl ?_
   apply CaseB.mk <;> intro g
   · have n : ¬ t < p.threads.length := by have g' := of_decide_eq_true g; omega
     refine aG ⟨_, rfl, tno fun e => n ?_, rfl⟩ (fun _ => rfl)
     obtain ⟨t', e1, ops, at_, op, e2, _⟩ := e k _ hat r1
     have := (List.getElem?_eq_some_iff.1 e2).1
     have e3 : p.pure.threads.length = p.threads.length := by simp [ProgH.pure]
     omega
   have ht : t < p.threads.length := by have g' := of_decide_eq_false g; omega
   refine bM (ti := aZ tab) aI aA rfl rfl rfl rfl rfl ⟨rfl, rfl⟩ (aN 1 rfl (.ofR (cR s))) t hz z37 (fun ad2 => ?_)
   apply CaseB.mk <;> intro g
   · have n : ¬ s.status[t] = 2 := by simpa using g
     refine aG ⟨_, rfl, tno fun e => n ?_, rfl⟩ (fun _ => rfl)
     obtain ⟨t', e1, ops, at_, op, e2, e3, _⟩ := e k _ hat r1
     obtain rfl : t' = t := by omega
     have e4 : s.status[t']? = some 2 := e3
     exact (List.getElem?_eq_some_iff.1 e4).2
   have s2 : s.status[t] = 2 := by simpa using g
   obtain ⟨p0, p1⟩ := hst t ht s2
   have hz2 : s.places[t] = ((s.places[t]).toNat : Int) := (Int.toNat_of_nonneg p0).symm
   have hlo : (s.places[t]).toNat < (p.threads[t]).m.length := by omega
   obtain ⟨op, hop⟩ : ∃ op, (p.threads[t]).m[(s.places[t]).toNat]? = some op := ⟨_, List.getElem?_eq_getElem hlo⟩
   have hopg : (p.threads[t]).m[(s.places[t]).toNat] = op := by rw [List.getElem?_eq_getElem hlo] at hop; injection hop
   have hst2 : s.pure.status[t]? = some 2 := by
     show s.status[t]? = some 2
     rw [List.getElem?_eq_getElem (by omega), s2]
   have hth : p.pure.threads[t]? = some (p.threads[t]).m := by simp [ProgH.pure, ht]
   have hpl : s.pure.places[t]? = some s.places[t] := List.getElem?_eq_getElem (show t < s.places.length by omega)
   have hO : mH0 p.pure s.pure k (s.onces[k]).m ↔ op.on = k := by
     constructor
     · intro e
       obtain ⟨t', e1, ops, at_, op', e2, e3, e4, e5, e6⟩ := e r1
       obtain rfl : t' = t := by omega
       rw [hth] at e2; injection e2 with e2; subst e2
       rw [hpl] at e4; injection e4 with e4; subst e4
       rw [hop] at e5; injection e5 with e5; subst e5
       exact e6
     · intro e _
       exact ⟨t, hz, _, _, _, hth, hst2, hpl, hop, e⟩
   refine bM (ti := aZ tab) eR aA rfl rfl rfl rfl rfl ⟨rfl, rfl⟩ (aN 0 rfl (.trans (.R_R (bE p)) (.ofR bK))) t hz z37 (fun ad3 => ?_)
   refine bM (ti := aZ tab) aI aA rfl rfl rfl rfl rfl ⟨rfl, rfl⟩ (aN 1 rfl (.ofR (fY s))) t hz z37 (fun ad4 => ?_)
   refine bM (ti := aZ tab) oX aA rfl rfl rfl rfl rfl ⟨rfl, rfl⟩ (aN 0 rfl (.trans (.R_R (bE p)) (.ofR (gD _ _ t ht)))) (s.places[t]).toNat hz2 z37 (fun ad5 => ?_)
   rw [hopg]
   apply CaseB.mk <;> intro g
   · have n : ¬ op.on = k := by simpa using g
     exact aG ⟨_, rfl, tno fun e => n (hO.1 (e k _ hat)), rfl⟩ (fun _ => rfl)
   have q1 := hO.2 z85
   refine ⟨⟨k + 1, by omega, fun i x hi hx => ?_⟩, ?_, by simp only; omega⟩
   · by_cases e : i < k
     · exact hinv i x e hx
     · obtain rfl : i = k := by omega
       rw [hat] at hx
       injection hx with hx
       subst hx
       exact q1
   · exact aC [0, 1] zw1 zw0 zw1 zw5 zw3 rfl rfl
 have hge : s.onces.length ≤ k := by simpa using g
 exact aG ⟨_, rfl, vR fun i x hx => hinv i x z68 hx, rfl⟩ (fun _ => rfl)
def cnt (xs : List Int) (t : Int) : Nat := (xs.filter fun x => x == t).length
theorem cI0 (es : List (Int × Waiting)) (t : Int) : cnt (es.map (·.1)) t = (aK es t).length := by
 induction es with
 | nil => rfl
 | cons e r ih =>
   simp only [cnt, aK, List.map_cons, List.filter_cons] at ih ⊢
   by_cases h : e.1 == t <;> simp [h] <;> simpa using ih
theorem nT {α β : Type} {f : Nat → α → List β} {e : β} : ∀ {i : Nat} {xs : List α}, e ∈ evL f i xs → ∃ j x, xs[j]? = some x ∧ e ∈ f (i + j) x
 | i, [], h => by simp [evL] at h
 | i, x :: r, h => by
   rcases List.mem_append.1 (show e ∈ f i x ++ evL f (i + 1) r from h) with h | h
   · exact ⟨0, x, rfl, h⟩
   · obtain ⟨j, y, hy, hm⟩ := nT h
     exact ⟨j + 1, y, hy, by rw [show i + (j + 1) = i + 1 + j by omega]; exact hm⟩
theorem iG {xs : List Int} (h : aS xs = true) {x : Int} (hx : x ∈ xs) : 0 ≤ x := by
 unfold aS at h
 have := (of_decide_eq_true h).2 x hx
 simp [aW] at this; omega
theorem eX0 {m : Once} (h : cS m) {x : Int} (hx : x ∈ m.waits) : 0 ≤ x := by
 rcases h with h | h | h
 · rw [h.2.2.2] at hx; cases hx
 · exact iG h.2.2.2.1 hx
 · rw [h.2.2.2] at hx; cases hx
theorem xN {p : Prog} {s : State} (h : SharedOk p s) : ∀ e ∈ bB s, 0 ≤ e.1 := by
 intro e he
 simp only [bB, List.mem_append] at he
 rcases he with (((he | he) | he) | he) | he
 · obtain ⟨j, x, hx, hm⟩ := nT he
   obtain ⟨y, hy, rfl⟩ := List.mem_map.1 hm
   exact iG (h.sems _ _ hx).1.dis (List.mem_map_of_mem hy)
 · obtain ⟨j, x, hx, hm⟩ := nT he
   obtain ⟨y, hy, rfl⟩ := List.mem_map.1 hm
   exact eX0 (h.onces _ (List.mem_of_getElem? hx)) hy
 · obtain ⟨j, x, hx, hm⟩ := nT he
   obtain ⟨y, hy, rfl⟩ := List.mem_map.1 hm
   exact iG (h.groups _ (List.mem_of_getElem? hx)).2.1 hy
 · obtain ⟨j, x, hx, hm⟩ := nT he
   obtain ⟨y, hy, rfl⟩ := List.mem_map.1 hm
   exact iG (h.barriers _ _ hx).1.2.2.2.2.2 hy
 · obtain ⟨j, x, hx, hm⟩ := nT he
   have hv : x.Valid := by simpa [Chan.valid] using (h.chans _ _ hx).1
   have hd := hv.di
   rcases List.mem_append.1 hm with hm | hm
   · obtain ⟨y, hy, rfl⟩ := List.mem_map.1 hm
     exact iG hd (by simp only [Chan.threads]; exact List.mem_append_left _ (List.mem_map_of_mem hy))
   · obtain ⟨y, hy, rfl⟩ := List.mem_map.1 hm
     exact iG hd (by simp only [Chan.threads]; exact List.mem_append_right _ hy)
theorem hO0 (p : ProgH) (s : StateH) (w : World) (h : At w [fR (bD p), fR (aJ s)]) (ok : ProgOk p.pure) (sh : SharedOk p.pure s.pure) :
   Calls Tryz.prog 52 #[eJ p, aM s] w (Ret w fun v L => ∃ (y : Sl) (cs : List Int) (b : Bool), v = .tuple #[y.val cs.length, .bool b] ∧ L = [own y 3 aL 1 cs] ∧
     (b = true ↔ ∀ e ∈ bB s.pure, e.1 < (p.threads.length : Int)) ∧ (b = true → cs.length = p.threads.length ∧ ∀ (t : Nat) (ht : t < cs.length), cs[t] = ((aK (bB s.pure) t).length : Int))) := by
 obtain ⟨s1, s2, s3, s4, s5, s6, s7, s8, s9, s10⟩ := sh
 have mlen : ∀ {α β : Type} (f : α → β) (xs : List α), (xs.map f).length = xs.length := fun f xs => by simp
 have l2 : s.pure.sems.length = s.sems.length := mlen _ _
 have l3 : s.pure.onces.length = s.onces.length := mlen _ _
 have l4 : s.pure.groups.length = s.groups.length := mlen _ _
 have l5 : s.pure.barriers.length = s.barriers.length := mlen _ _
 have l6 : s.pure.chans.length = s.chans.length := mlen _ _
 have m0 : p.pure.sems.length ≤ 3 := ok.sems.1
 have m1 : p.pure.groups.length ≤ 3 := ok.groups.1
 have m2 : p.pure.barriers.length ≤ 3 := ok.barriers.1
 have m3 : p.pure.rooms.length ≤ 3 := ok.rooms.1
 have n4 : p.threads.length ≤ 4 := by have := ok.n4; simpa [ProgH.pure] using this
 refine cN Tryz.func52 rfl aA w _ rfl _ rfl _ h ⟨rfl, rfl, rfl, rfl, trivial⟩ _ _ (by decide) ?_
 refine AllSl.mk fun y0 => ?_
 refine LoopW.mk ⟨{ q : Nat × Sl × List Int // q.1 ≤ s.sems.length ∧ q.2.2 = ([] : List Int) ++ (evL cO 0 (s.pure.sems.take q.1)).map (·.1) ∧ q.2.2.length ≤ 0 + 6 * q.1 },
   fun q => .mk [(2, .p 0 0), (3, .p 1 0), (6, .v (q.1.2.1.val q.1.2.2.length)), (7, .v (.int .i64 (q.1.1 : Int)))] 2 0 [(0, 38, 5), (1, 46, 9)] [((0, 0), .v (p.h0.val p.sems.length)), ((0, 1), .v (p.h1.val p.groups.length)), ((0, 2), .v (p.h2.val p.barriers.length)), ((0, 3), .v (p.h3.val p.rooms.length)), ((0, 4), .v (p.h4.val p.threads.length)), ((1, 0), .v (s.h0.val s.places.length)), ((1, 1), .v (s.h1.val s.status.length)), ((1, 2), .v (s.h2.val s.sems.length)), ((1, 3), .v (s.h3.val s.onces.length)), ((1, 4), .v (s.h4.val s.groups.length)), ((1, 5), .v (s.h5.val s.barriers.length)), ((1, 6), .v (s.h6.val s.chans.length)), ((1, 7), .v (s.h7.val s.said.length)), ((1, 8), .v (.int .i64 s.fault))] [own q.1.2.1 3 aL 1 q.1.2.2, fR (bD p), fR (aJ s)],
   fun q => s.sems.length - q.1.1, ⟨(0, y0, []), Nat.zero_le _, by simp [evL], by simp; try omega⟩, ?_, ?_⟩
 · exact aC [0, 1, 2] zw2 zw0 zw2 zw5 zw4 rfl rfl
 rintro ⟨⟨k, y1, x1⟩, hk, hx, hl⟩
 simp only at hk hx hl
 apply CaseB.mk <;> intro g
 · have hlt : k < s.sems.length := by simpa using g
   have hw := bA k _ hlt (by omega)
   have hat : s.pure.sems[k]? = some (s.sems[k]).m := by simp [StateH.pure, hlt]
   have hltp : k < s.pure.sems.length := by omega
   have hget : s.pure.sems[k]'hltp = (s.sems[k]).m := by simp [StateH.pure]
   have hsucc := eV cO s.pure.sems hltp
   rw [hget] at hsucc
   have hq := (s6 _ _ hat).1.q6
   refine LoopW.mk ⟨{ q : Nat × Sl × List Int // q.1 ≤ (s.sems[k]).m.queue.length ∧ q.2.2 = x1 ++ ((s.sems[k]).m.queue.take q.1).map (·.t) ∧ q.2.2.length ≤ 6 * k + q.1 },
     fun q => .mk [(2, .p 0 0), (3, .p 1 0), (6, .v (q.1.2.1.val q.1.2.2.length)), (7, .v (.int .i64 (k : Int))), (8, .v (.int .i64 (q.1.1 : Int)))] 2 0 [(0, 38, 5), (1, 46, 9)] [((0, 0), .v (p.h0.val p.sems.length)), ((0, 1), .v (p.h1.val p.groups.length)), ((0, 2), .v (p.h2.val p.barriers.length)), ((0, 3), .v (p.h3.val p.rooms.length)), ((0, 4), .v (p.h4.val p.threads.length)), ((1, 0), .v (s.h0.val s.places.length)), ((1, 1), .v (s.h1.val s.status.length)), ((1, 2), .v (s.h2.val s.sems.length)), ((1, 3), .v (s.h3.val s.onces.length)), ((1, 4), .v (s.h4.val s.groups.length)), ((1, 5), .v (s.h5.val s.barriers.length)), ((1, 6), .v (s.h6.val s.chans.length)), ((1, 7), .v (s.h7.val s.said.length)), ((1, 8), .v (.int .i64 s.fault))] [own q.1.2.1 3 aL 1 q.1.2.2, fR (bD p), fR (aJ s)],
     fun q => (s.sems[k]).m.queue.length - q.1.1, ⟨(0, y1, x1), Nat.zero_le _, by simp, by simp only; omega⟩, ?_, ?_⟩
   · exact aC [0, 1, 2] zw2 zw0 zw2 zw5 zw4 rfl rfl
   rintro ⟨⟨j, y', xs2⟩, hj, hx2, hl2⟩
   simp only at hj hx2 hl2
   refine aF dV aA rfl rfl rfl rfl rfl ⟨rfl, rfl⟩ (aN 2 rfl (.trans (.R_R (cI s)) (.ofR bK))) k rfl z37 (fun ad => ?_)
   apply CaseB.mk <;> intro g
   · have hlt2 : j < (s.sems[k]).m.queue.length := by simpa using g
     have hw2 := bA j _ hlt2 (by omega)
     refine aF dV aA rfl rfl rfl rfl rfl ⟨rfl, rfl⟩ (aN 2 rfl (.trans (.R_R (cI s)) (.ofR bK))) k rfl z37 (fun ad2 => ?_)
     refine aF cW aA rfl rfl rfl rfl rfl ⟨rfl, rfl⟩ (aN 2 rfl (.trans (.R_R (cI s)) (.ofR (nO _ _ k hlt)))) j rfl z37 (fun ad3 => ?_)
     refine AllSl.mk fun b => ?_
     refine bR aI 1 aA (ys := [((s.sems[k]).m.queue[j]).t]) rfl rfl rfl rfl rfl rfl rfl rfl rfl (by decide) ⟨rfl, rfl⟩ rfl z31 z37 z37 (fun z => ?_)
     obtain ⟨xs', hx'⟩ : ∃ xs', xs' = xs2 ++ [((s.sems[k]).m.queue[j]).t] := ⟨_, rfl⟩
     rw [← hx']
     refine ⟨⟨(j + 1, z, xs'), by omega, ?_, by rw [hx', List.length_append]; simp only [List.length_cons, List.length_nil]; omega⟩, ?_, by simp only; omega⟩
     · show xs' = _
       rw [hx', hx2, List.take_succ_eq_append_getElem hlt2, List.map_append, List.append_assoc]; rfl
     · exact aC [0, 2, 3] zw8 zw0 zw8 zw5 zw18 rfl rfl
   have hge : (s.sems[k]).m.queue.length ≤ j := by simpa using g
   rw [List.take_of_length_le hge] at hx2
   refine ⟨⟨(k + 1, y', xs2), by omega, ?_, by simp only; omega⟩, ?_, by simp only; omega⟩
   · show xs2 = _
     rw [hx2, hx, hsucc]
     simp [cO, Function.comp_def]
   · exact aC [0, 1, 2] zw1 zw0 zw1 zw5 zw3 rfl rfl
 have hge : s.sems.length ≤ k := by simpa using g
 rw [List.take_of_length_le (show s.pure.sems.length ≤ k by omega)] at hx
 have e1 : x1 = (evL cO 0 s.pure.sems).map (·.1) := by simpa using hx
 have c1 : x1.length ≤ 18 := by omega
 refine LoopW.mk ⟨{ q : Nat × Sl × List Int // q.1 ≤ s.onces.length ∧ q.2.2 = x1 ++ (evL bX 0 (s.pure.onces.take q.1)).map (·.1) ∧ q.2.2.length ≤ 18 + 6 * q.1 },
   fun q => .mk [(2, .p 0 0), (3, .p 1 0), (6, .v (q.1.2.1.val q.1.2.2.length)), (9, .v (.int .i64 (q.1.1 : Int)))] 2 0 [(0, 38, 5), (1, 46, 9)] [((0, 0), .v (p.h0.val p.sems.length)), ((0, 1), .v (p.h1.val p.groups.length)), ((0, 2), .v (p.h2.val p.barriers.length)), ((0, 3), .v (p.h3.val p.rooms.length)), ((0, 4), .v (p.h4.val p.threads.length)), ((1, 0), .v (s.h0.val s.places.length)), ((1, 1), .v (s.h1.val s.status.length)), ((1, 2), .v (s.h2.val s.sems.length)), ((1, 3), .v (s.h3.val s.onces.length)), ((1, 4), .v (s.h4.val s.groups.length)), ((1, 5), .v (s.h5.val s.barriers.length)), ((1, 6), .v (s.h6.val s.chans.length)), ((1, 7), .v (s.h7.val s.said.length)), ((1, 8), .v (.int .i64 s.fault))] [own q.1.2.1 3 aL 1 q.1.2.2, fR (bD p), fR (aJ s)],
   fun q => s.onces.length - q.1.1, ⟨(0, y1, x1), Nat.zero_le _, by simp [evL], by simp; try omega⟩, ?_, ?_⟩
 · exact aC [0, 1, 2] zw2 zw0 zw2 zw5 zw4 rfl rfl
 rintro ⟨⟨k, y2, x2⟩, hk, hx, hl⟩
 simp only at hk hx hl
 apply CaseB.mk <;> intro g
 · have hlt : k < s.onces.length := by simpa using g
   have hw := bA k _ hlt (by omega)
   have hat : s.pure.onces[k]? = some (s.onces[k]).m := by simp [StateH.pure, hlt]
   have hltp : k < s.pure.onces.length := by omega
   have hget : s.pure.onces[k]'hltp = (s.onces[k]).m := by simp [StateH.pure]
   have hsucc := eV bX s.pure.onces hltp
   rw [hget] at hsucc
   have hq := eD (s10 _ (List.mem_of_getElem? hat))
   refine aF dM aA rfl rfl rfl rfl rfl ⟨rfl, rfl⟩ (aN 2 rfl (.trans (.R_R (cF s)) (.ofR bK))) k rfl z37 (fun ad => ?_)
   refine bR aI 0 aA (ys := (s.onces[k]).m.waits) rfl rfl rfl rfl rfl rfl rfl rfl rfl (by decide) ⟨rfl, rfl⟩ rfl (aN 2 rfl (.trans (.R_R (cF s)) (.ofR (lF _ _ k hlt)))) z37 z37 (fun z => ?_)
   obtain ⟨xs', hx'⟩ : ∃ xs', xs' = x2 ++ (s.onces[k]).m.waits := ⟨_, rfl⟩
   rw [← hx']
   refine ⟨⟨(k + 1, z, xs'), by omega, ?_, by rw [hx', List.length_append]; simp only; omega⟩, ?_, by simp only; omega⟩
   · show xs' = _
     rw [hx', hx, hsucc]
     simp [bX, Function.comp_def]
   · exact aC [0, 1, 2] zw1 zw0 zw1 zw5 zw3 rfl rfl
 have hge : s.onces.length ≤ k := by simpa using g
 rw [List.take_of_length_le (show s.pure.onces.length ≤ k by omega)] at hx
 have e2 : x2 = x1 ++ (evL bX 0 s.pure.onces).map (·.1) := hx
 have c2 : x2.length ≤ 36 := by omega
 refine LoopW.mk ⟨{ q : Nat × Sl × List Int // q.1 ≤ s.groups.length ∧ q.2.2 = x2 ++ (evL cA 0 (s.pure.groups.take q.1)).map (·.1) ∧ q.2.2.length ≤ 36 + 6 * q.1 },
   fun q => .mk [(2, .p 0 0), (3, .p 1 0), (6, .v (q.1.2.1.val q.1.2.2.length)), (10, .v (.int .i64 (q.1.1 : Int)))] 2 0 [(0, 38, 5), (1, 46, 9)] [((0, 0), .v (p.h0.val p.sems.length)), ((0, 1), .v (p.h1.val p.groups.length)), ((0, 2), .v (p.h2.val p.barriers.length)), ((0, 3), .v (p.h3.val p.rooms.length)), ((0, 4), .v (p.h4.val p.threads.length)), ((1, 0), .v (s.h0.val s.places.length)), ((1, 1), .v (s.h1.val s.status.length)), ((1, 2), .v (s.h2.val s.sems.length)), ((1, 3), .v (s.h3.val s.onces.length)), ((1, 4), .v (s.h4.val s.groups.length)), ((1, 5), .v (s.h5.val s.barriers.length)), ((1, 6), .v (s.h6.val s.chans.length)), ((1, 7), .v (s.h7.val s.said.length)), ((1, 8), .v (.int .i64 s.fault))] [own q.1.2.1 3 aL 1 q.1.2.2, fR (bD p), fR (aJ s)],
   fun q => s.groups.length - q.1.1, ⟨(0, y2, x2), Nat.zero_le _, by simp [evL], by simp; try omega⟩, ?_, ?_⟩
 · exact aC [0, 1, 2] zw2 zw0 zw2 zw5 zw4 rfl rfl
 rintro ⟨⟨k, y3, x3⟩, hk, hx, hl⟩
 simp only at hk hx hl
 apply CaseB.mk <;> intro g
 · have hlt : k < s.groups.length := by simpa using g
   have hw := bA k _ hlt (by omega)
   have hat : s.pure.groups[k]? = some (s.groups[k]).m := by simp [StateH.pure, hlt]
   have hltp : k < s.pure.groups.length := by omega
   have hget : s.pure.groups[k]'hltp = (s.groups[k]).m := by simp [StateH.pure]
   have hsucc := eV cA s.pure.groups hltp
   rw [hget] at hsucc
   have hq := gF (s7 _ (List.mem_of_getElem? hat))
   refine aF cP aA rfl rfl rfl rfl rfl ⟨rfl, rfl⟩ (aN 2 rfl (.trans (.R_R (bZ s)) (.ofR bK))) k rfl z37 (fun ad => ?_)
   refine bR aI 0 aA (ys := (s.groups[k]).m.waits) rfl rfl rfl rfl rfl rfl rfl rfl rfl (by decide) ⟨rfl, rfl⟩ rfl (aN 2 rfl (.trans (.R_R (bZ s)) (.ofR (iE _ _ k hlt)))) z37 z37 (fun z => ?_)
   obtain ⟨xs', hx'⟩ : ∃ xs', xs' = x3 ++ (s.groups[k]).m.waits := ⟨_, rfl⟩
   rw [← hx']
   refine ⟨⟨(k + 1, z, xs'), by omega, ?_, by rw [hx', List.length_append]; simp only; omega⟩, ?_, by simp only; omega⟩
   · show xs' = _
     rw [hx', hx, hsucc]
     simp [cA, Function.comp_def]
   · exact aC [0, 1, 2] zw1 zw0 zw1 zw5 zw3 rfl rfl
 have hge : s.groups.length ≤ k := by simpa using g
 rw [List.take_of_length_le (show s.pure.groups.length ≤ k by omega)] at hx
 have e3 : x3 = x2 ++ (evL cA 0 s.pure.groups).map (·.1) := hx
 have c3 : x3.length ≤ 54 := by omega
 refine LoopW.mk ⟨{ q : Nat × Sl × List Int // q.1 ≤ s.barriers.length ∧ q.2.2 = x3 ++ (evL bQ 0 (s.pure.barriers.take q.1)).map (·.1) ∧ q.2.2.length ≤ 54 + 6 * q.1 },
   fun q => .mk [(2, .p 0 0), (3, .p 1 0), (6, .v (q.1.2.1.val q.1.2.2.length)), (11, .v (.int .i64 (q.1.1 : Int)))] 2 0 [(0, 38, 5), (1, 46, 9)] [((0, 0), .v (p.h0.val p.sems.length)), ((0, 1), .v (p.h1.val p.groups.length)), ((0, 2), .v (p.h2.val p.barriers.length)), ((0, 3), .v (p.h3.val p.rooms.length)), ((0, 4), .v (p.h4.val p.threads.length)), ((1, 0), .v (s.h0.val s.places.length)), ((1, 1), .v (s.h1.val s.status.length)), ((1, 2), .v (s.h2.val s.sems.length)), ((1, 3), .v (s.h3.val s.onces.length)), ((1, 4), .v (s.h4.val s.groups.length)), ((1, 5), .v (s.h5.val s.barriers.length)), ((1, 6), .v (s.h6.val s.chans.length)), ((1, 7), .v (s.h7.val s.said.length)), ((1, 8), .v (.int .i64 s.fault))] [own q.1.2.1 3 aL 1 q.1.2.2, fR (bD p), fR (aJ s)],
   fun q => s.barriers.length - q.1.1, ⟨(0, y3, x3), Nat.zero_le _, by simp [evL], by simp; try omega⟩, ?_, ?_⟩
 · exact aC [0, 1, 2] zw2 zw0 zw2 zw5 zw4 rfl rfl
 rintro ⟨⟨k, y4, x4⟩, hk, hx, hl⟩
 simp only at hk hx hl
 apply CaseB.mk <;> intro g
 · have hlt : k < s.barriers.length := by simpa using g
   have hw := bA k _ hlt (by omega)
   have hat : s.pure.barriers[k]? = some (s.barriers[k]).m := by simp [StateH.pure, hlt]
   have hltp : k < s.pure.barriers.length := by omega
   have hget : s.pure.barriers[k]'hltp = (s.barriers[k]).m := by simp [StateH.pure]
   have hsucc := eV bQ s.pure.barriers hltp
   rw [hget] at hsucc
   have hq := fZ (s8 _ _ hat).1
   refine aF cH aA rfl rfl rfl rfl rfl ⟨rfl, rfl⟩ (aN 2 rfl (.trans (.R_R (bN s)) (.ofR bK))) k rfl z37 (fun ad => ?_)
   refine bR aI 0 aA (ys := (s.barriers[k]).m.waits) rfl rfl rfl rfl rfl rfl rfl rfl rfl (by decide) ⟨rfl, rfl⟩ rfl (aN 2 rfl (.trans (.R_R (bN s)) (.ofR (fJ _ _ k hlt)))) z37 z37 (fun z => ?_)
   obtain ⟨xs', hx'⟩ : ∃ xs', xs' = x4 ++ (s.barriers[k]).m.waits := ⟨_, rfl⟩
   rw [← hx']
   refine ⟨⟨(k + 1, z, xs'), by omega, ?_, by rw [hx', List.length_append]; simp only; omega⟩, ?_, by simp only; omega⟩
   · show xs' = _
     rw [hx', hx, hsucc]
     simp [bQ, Function.comp_def]
   · exact aC [0, 1, 2] zw1 zw0 zw1 zw5 zw3 rfl rfl
 have hge : s.barriers.length ≤ k := by simpa using g
 rw [List.take_of_length_le (show s.pure.barriers.length ≤ k by omega)] at hx
 have e4 : x4 = x3 ++ (evL bQ 0 s.pure.barriers).map (·.1) := hx
 have c4 : x4.length ≤ 72 := by omega
 refine LoopW.mk ⟨{ q : Nat × Sl × List Int // q.1 ≤ s.chans.length ∧ q.2.2 = x4 ++ (evL cK 0 (s.pure.chans.take q.1)).map (·.1) ∧ q.2.2.length ≤ 72 + 6 * q.1 },
   fun q => .mk [(2, .p 0 0), (3, .p 1 0), (6, .v (q.1.2.1.val q.1.2.2.length)), (12, .v (.int .i64 (q.1.1 : Int)))] 2 0 [(0, 38, 5), (1, 46, 9)] [((0, 0), .v (p.h0.val p.sems.length)), ((0, 1), .v (p.h1.val p.groups.length)), ((0, 2), .v (p.h2.val p.barriers.length)), ((0, 3), .v (p.h3.val p.rooms.length)), ((0, 4), .v (p.h4.val p.threads.length)), ((1, 0), .v (s.h0.val s.places.length)), ((1, 1), .v (s.h1.val s.status.length)), ((1, 2), .v (s.h2.val s.sems.length)), ((1, 3), .v (s.h3.val s.onces.length)), ((1, 4), .v (s.h4.val s.groups.length)), ((1, 5), .v (s.h5.val s.barriers.length)), ((1, 6), .v (s.h6.val s.chans.length)), ((1, 7), .v (s.h7.val s.said.length)), ((1, 8), .v (.int .i64 s.fault))] [own q.1.2.1 3 aL 1 q.1.2.2, fR (bD p), fR (aJ s)],
   fun q => s.chans.length - q.1.1, ⟨(0, y4, x4), Nat.zero_le _, by simp [evL], by simp; try omega⟩, ?_, ?_⟩
 · exact aC [0, 1, 2] zw2 zw0 zw2 zw5 zw4 rfl rfl
 rintro ⟨⟨k, y5, x5⟩, hk, hx, hl⟩
 simp only at hk hx hl
 apply CaseB.mk <;> intro g
 · have hlt : k < s.chans.length := by simpa using g
   have hw := bA k _ hlt (by omega)
   have hat : s.pure.chans[k]? = some (s.chans[k]).m := by simp [StateH.pure, hlt]
   have hltp : k < s.pure.chans.length := by omega
   have hget : s.pure.chans[k]'hltp = (s.chans[k]).m := by simp [StateH.pure]
   have hsucc := eV cK s.pure.chans hltp
   rw [hget] at hsucc
   have hq := lH (s9 _ _ hat).1
   refine aH aA z88 z88 z88 200 [((1, 6), .v (s.h6.val s.chans.length))] [1, 2] [_, _] z117 z120 ⟨rfl, rfl, trivial⟩ rfl ?_
   refine bM (ti := aZ tab) cX aA rfl rfl rfl rfl rfl ⟨rfl, rfl⟩ (aN 1 rfl (.trans (.R_R (bC s)) (.ofR bK))) k rfl z37 (fun ad => ?_)
   refine bM (ti := aZ tab) cX aA rfl rfl rfl rfl rfl ⟨rfl, rfl⟩ (aN 1 rfl (.trans (.R_R (bC s)) (.ofR bK))) k rfl z37 (fun ad2 => ?_)
   refine bV _ jM0 rfl rfl rfl rfl ⟨rfl, rfl⟩ (fun A w hW => lT _ _ w ⟨hW.get 2 rfl (.trans (.R_R (bC s)) (.ofR (lG _ _ k hlt))), trivial⟩ (by omega)) ?_
   rw [List.take_of_length_le (by omega)]
   rintro v L ⟨b, rfl, rfl⟩
   obtain ⟨st, hst⟩ : ∃ st, st = (s.chans[k]).m.senders.map Letter.t := ⟨_, rfl⟩
   have hstl : st.length ≤ 6 := by rw [hst, List.length_map]; omega
   rw [← hst]
   refine dB (ti := aZ tab) aI 1 aA (ys := st) rfl rfl rfl rfl rfl rfl rfl rfl rfl (by decide) ⟨rfl, rfl⟩ rfl z31 z37 z37 z86 (fun z1 => ?_)
   obtain ⟨xs1, hx1⟩ : ∃ xs', xs' = x5 ++ st := ⟨_, rfl⟩
   have hl1 : xs1.length ≤ 6 * k + 78 := by rw [hx1, List.length_append]; omega
   rw [← hx1]
   refine dB (ti := aZ tab) aI 0 aA (ys := (s.chans[k]).m.getters) rfl rfl rfl rfl rfl rfl rfl rfl rfl (by decide) ⟨rfl, rfl⟩ rfl (aN 3 rfl (.trans (.R_R (bC s)) (.ofR (nC _ _ k hlt)))) z37 z37 z86 (fun z2 => ?_)
   obtain ⟨xs2, hx2⟩ : ∃ xs', xs' = xs1 ++ (s.chans[k]).m.getters := ⟨_, rfl⟩
   rw [← hx2]
   refine ⟨⟨(k + 1, z2, xs2), by omega, ?_, by rw [hx2, hx1, hst, List.length_append, List.length_append, List.length_map]; simp only; omega⟩, ?_, by simp only; omega⟩
   · show xs2 = _
     rw [hx2, hx1, hst, hx, hsucc]
     simp [cK, Function.comp_def]
   · exact aC [0, 2, 3] zw1 zw0 zw1 zw5 zw3 rfl rfl
 have hge : s.chans.length ≤ k := by simpa using g
 rw [List.take_of_length_le (show s.pure.chans.length ≤ k by omega)] at hx
 have e5 : x5 = (bB s.pure).map (·.1) := by rw [hx, e4, e3, e2, e1]; simp [bB]
 have c5 : x5.length ≤ 90 := by omega
 have h0 : ∀ x ∈ x5, 0 ≤ x := by
   rw [e5]
   intro x hm
   obtain ⟨e, he, rfl⟩ := List.mem_map.1 hm
   exact xN ⟨s1, s2, s3, s4, s5, s6, s7, s8, s9, s10⟩ e he
 have hev : ∀ n : Int, (∀ x ∈ x5, x < n) ↔ ∀ e ∈ bB s.pure, e.1 < n := fun n => by rw [e5]; simp
 refine eJ0 aI 0 aA rfl rfl rfl rfl rfl (by decide) ⟨rfl, rfl⟩ p.threads.length rfl z37 z37 (fun z0 => ?_)
 refine LoopW.mk ⟨{ q : Nat × Sl × List Int // q.1 ≤ x5.length ∧ q.2.2.length = p.threads.length ∧ (∀ x ∈ x5.take q.1, x < (p.threads.length : Int)) ∧ ∀ (t : Nat) (ht : t < q.2.2.length), q.2.2[t] = (cnt (x5.take q.1) t : Int) },
   fun q => .mk [(2, .p 0 0), (3, .p 1 0), (6, .v (y5.val x5.length)), (13, .v (q.1.2.1.val q.1.2.2.length)), (14, .v (.int .i64 (q.1.1 : Int)))] 2 0 [(0, 38, 5), (1, 46, 9)] [((0, 0), .v (p.h0.val p.sems.length)), ((0, 1), .v (p.h1.val p.groups.length)), ((0, 2), .v (p.h2.val p.barriers.length)), ((0, 3), .v (p.h3.val p.rooms.length)), ((0, 4), .v (p.h4.val p.threads.length)), ((1, 0), .v (s.h0.val s.places.length)), ((1, 1), .v (s.h1.val s.status.length)), ((1, 2), .v (s.h2.val s.sems.length)), ((1, 3), .v (s.h3.val s.onces.length)), ((1, 4), .v (s.h4.val s.groups.length)), ((1, 5), .v (s.h5.val s.barriers.length)), ((1, 6), .v (s.h6.val s.chans.length)), ((1, 7), .v (s.h7.val s.said.length)), ((1, 8), .v (.int .i64 s.fault))] [own q.1.2.1 3 aL 1 q.1.2.2, own y5 3 aL 1 x5, fR (bD p), fR (aJ s)],
   fun q => x5.length - q.1.1, ⟨(0, z0, List.replicate p.threads.length 0), Nat.zero_le _, by simp, by simp, by simp [cnt]⟩, ?_, ?_⟩
 · refine aC [0, 1, 2, 3] ?_ ?_ ?_ ?_ ?_ rfl rfl
   · exact zw28
   · exact zw0
   · exact zw28
   · exact zw5
   · repeat (first | exact trivial | refine ⟨.inl ⟨_, rfl, (by first | rfl | ((simp)))⟩, ?_⟩ | refine ⟨.inr z111, ?_⟩)
 rintro ⟨⟨i, z, cs⟩, hi, hcl, hlt5, hcs⟩
 simp only at hi hcl hlt5 hcs
 apply CaseB.mk <;> intro g
 · have hlt : i < x5.length := by simpa using g
   have hw := bA i _ hlt (by omega)
   refine aF aI aA rfl rfl rfl rfl rfl ⟨rfl, rfl⟩ (aN 1 rfl (Rd.own (o := false) (o' := false))) i rfl z37 (fun ad => ?_)
   apply CaseB.mk <;> intro g
   · have n : ¬ x5[i] < (p.threads.length : Int) := by have g' : (cs.length : Int) ≤ x5[i] := of_decide_eq_true g; omega
     exact bY [0] ⟨z, cs, false, rfl, rfl, tno fun e => n ((hev _).2 e _ (List.getElem_mem hlt)), fun e => (by cases e)⟩ z118 rfl ⟨rfl, trivial⟩ (fun _ => rfl)
   have hx : x5[i] < (p.threads.length : Int) := by have g' : ¬ (cs.length : Int) ≤ x5[i] := of_decide_eq_false g; omega
   have hx0 := h0 _ (List.getElem_mem hlt)
   obtain ⟨j, hj⟩ : ∃ j : Nat, x5[i] = (j : Int) := ⟨_, (Int.toNat_of_nonneg hx0).symm⟩
   have hjl : j < cs.length := by omega
   have hcj := hcs j hjl
   have hcn : cnt (x5.take i) j ≤ 90 := by
     have h1 : cnt (x5.take i) j ≤ (x5.take i).length := List.length_filter_le _ _
     have h2 : (x5.take i).length ≤ x5.length := by simp; omega
     omega
   have hwr : IntKind.i64.wrap (cs[j] + 1) = cs[j] + 1 := by rw [IntKind.wrap_i64]; omega
   refine nA 0 rfl (show 0 < cs.length by omega) fun gg hgg _ _ => ?_
   refine aH aA z88 z88 z88 200 [] [1] [_] trivial trivial ⟨rfl, trivial⟩ rfl ?_
   refine bM (ti := aZ tab) aI aA rfl rfl rfl rfl rfl ⟨rfl, rfl⟩ (aN 0 rfl (Rd.own (o := false) (o' := false))) i rfl z37 (fun ad1 => ?_)
   refine bM (ti := aZ tab) aI aA rfl rfl rfl rfl rfl ⟨rfl, rfl⟩ (aN 0 rfl (Rd.own (o := false) (o' := false))) i rfl z37 (fun ad2 => ?_)
   refine mI (ti := aZ tab) aA rfl rfl rfl rfl rfl ⟨rfl, rfl⟩ hgg j hj hjl ?_
   refine rJ (ti := aZ tab) aI 0 aA rfl rfl rfl ⟨rfl, rfl⟩ rfl hgg j 0 rfl hjl rfl ?_
   refine mI (ti := aZ tab) aA rfl rfl rfl rfl rfl ⟨rfl, rfl⟩ hgg j hj hjl ?_
   refine nB (ti := aZ tab) aI 0 aA rfl rfl rfl rfl rfl rfl rfl rfl hgg j 0 (cs[j] + 1) rfl hjl rfl [.int .i64 (cs[j] + 1)] (fun _ => by simp [SV.den, hwr]) rfl z86 ?_
   obtain ⟨cs', hcs'⟩ : ∃ cs', cs' = cs.set j (cs[j] + 1) := ⟨_, rfl⟩
   rw [← hcs']
   refine ⟨⟨(i + 1, z, cs'), by omega, by rw [hcs', List.length_set]; exact hcl, ?_, ?_⟩, ?_, by simp only; omega⟩
   · intro x hm
     rw [List.take_succ_eq_append_getElem hlt] at hm
     rcases List.mem_append.1 hm with hm | hm
     · exact hlt5 x hm
     · rw [List.mem_singleton.1 hm]; exact hx
   · intro t ht
     have ht2 : t < cs.length := by have e : cs'.length = cs.length := by rw [hcs', List.length_set]
                                    have ht3 : t < cs'.length := ht
                                    omega
     have e : cnt (x5.take (i + 1)) t = cnt (x5.take i) t + if x5[i] = (t : Int) then 1 else 0 := by
       rw [List.take_succ_eq_append_getElem hlt]
       simp only [cnt, List.filter_append, List.length_append, List.filter_cons, List.filter_nil]
       by_cases h : x5[i] = (t : Int) <;> simp [h]
     show cs'[t] = _
     rw [e]
     simp only [hcs', List.getElem_set, hcs t ht2]
     by_cases h : j = t
     · subst h; rw [if_pos rfl, if_pos hj, hcj]; rfl
     · rw [if_neg h, if_neg (by omega)]; rfl
   · refine aC [0, 1, 2, 3] ?_ ?_ ?_ ?_ ?_ rfl rfl
     · exact zw15
     · exact zw0
     · exact zw15
     · exact zw5
     · repeat (first | exact trivial | refine ⟨.inl ⟨_, rfl, (by first | rfl | ((first | exact congrArg (fun z => SV.v (Value.int .i64 z)) hw | (simp only [hcs', List.length_set]; done) | (subst hcs'; simp; done))))⟩, ?_⟩ | refine ⟨.inr z111, ?_⟩)
 have hge : x5.length ≤ i := by simpa using g
 rw [List.take_of_length_le hge] at hlt5 hcs
 exact bY [0] ⟨z, cs, true, rfl, rfl, vR ((hev _).1 hlt5), fun _ => ⟨hcl, fun t ht => by rw [← cI0, ← e5]; exact hcs t ht⟩⟩ z118 rfl ⟨rfl, trivial⟩ (fun _ => rfl)
theorem vY {α β : Type} {f : Nat → α → List β} {e : β} {xs : List α} : e ∈ evL f 0 xs ↔ ∃ j x, xs[j]? = some x ∧ e ∈ f j x := by
 have : ∀ (xs : List α) (i j : Nat) (x : α), xs[j]? = some x → e ∈ f (i + j) x → e ∈ evL f i xs := by
   intro xs
   induction xs with
   | nil => intro i j x h; simp at h
   | cons y r ih =>
     intro i j x h hm
     simp only [evL, List.mem_append]
     cases j with
     | zero => simp at h; subst h; exact .inl hm
     | succ j => exact .inr (ih (i + 1) j x z83 (by rw [show i + 1 + j = i + (j + 1) by omega]; exact hm))
 constructor
 · intro h
   obtain ⟨j, x, hx, hm⟩ := nT h
   exact ⟨j, x, hx, by rwa [Nat.zero_add] at hm⟩
 · rintro ⟨j, x, hx, hm⟩
   exact this xs 0 j x hx (by rwa [Nat.zero_add])
theorem iH {β : Type} {es : List (Int × β)} {t : Int} {x : β} : x ∈ aK es t ↔ (t, x) ∈ es := by
 simp only [aK, List.mem_map, List.mem_filter, beq_iff_eq]
 constructor
 · rintro ⟨⟨a, b⟩, ⟨h, rfl⟩, rfl⟩; exact h
 · intro h; exact ⟨_, ⟨h, rfl⟩, rfl⟩
theorem xO {p : Prog} {s : State} {op : Op} {t : Int} (ho : OpOk p op) : eH s op t ↔ iV op ∈ aK (bB s) t := by
 have o0 : 0 ≤ op.on := ho.2.2.1
 have hz : ∀ j : Nat, ((j : Int) = op.on ↔ j = op.on.toNat) := fun j => by omega
 rw [iH]
 simp only [bB, List.mem_append, vY, eH, iV, cO, bX, cA, bQ, cK, List.mem_map, Prod.mk.injEq, Waiting.mk.injEq]
 by_cases k2 : op.kind = 2
 · simp only [k2, if_true, true_or]
   constructor
   · rintro ⟨x, hx, hm⟩
     exact .inl (.inl (.inl (.inl ⟨_, x, hx, _, hm, by simp, by simp, by omega, by simp⟩)))
   · rintro ((((⟨j, x, hx, y, hm, h1, h2, h3, h4⟩ | ⟨j, x, hx, y, hm, h1, h2, h3, h4⟩) | ⟨j, x, hx, y, hm, h1, h2, h3, h4⟩) | ⟨j, x, hx, y, hm, h1, h2, h3, h4⟩) | ⟨j, x, hx, ⟨y, hm, h1, h2, h3, h4⟩ | ⟨y, hm, h1, h2, h3, h4⟩⟩)
     · obtain rfl := (hz j).1 h3
       refine ⟨x, hx, ?_⟩
       obtain ⟨a, b⟩ := y
       simp only at h1 h4; subst h1; subst h4; exact hm
     all_goals omega
 by_cases k4 : op.kind = 4
 · simp only [k4, if_true, if_neg (show ¬ (4 : Int) = 2 by decide), if_neg (show ¬ ((4 : Int) = 2 ∨ (4 : Int) = 8) by decide)]
   constructor
   · rintro ⟨x, hx, hm⟩
     exact .inl (.inl (.inl (.inr ⟨_, x, hx, _, hm, by simp, by simp, by omega, by simp⟩)))
   · rintro ((((⟨j, x, hx, y, hm, h1, h2, h3, h4⟩ | ⟨j, x, hx, y, hm, h1, h2, h3, h4⟩) | ⟨j, x, hx, y, hm, h1, h2, h3, h4⟩) | ⟨j, x, hx, y, hm, h1, h2, h3, h4⟩) | ⟨j, x, hx, ⟨y, hm, h1, h2, h3, h4⟩ | ⟨y, hm, h1, h2, h3, h4⟩⟩)
     · omega
     · obtain rfl := (hz j).1 h3
       subst h1; exact ⟨x, hx, hm⟩
     all_goals omega
 by_cases k6 : op.kind = 6
 · simp only [k6, if_true, if_neg (show ¬ (6 : Int) = 2 by decide), if_neg (show ¬ (6 : Int) = 4 by decide), if_neg (show ¬ ((6 : Int) = 2 ∨ (6 : Int) = 8) by decide)]
   constructor
   · rintro ⟨x, hx, hm⟩
     exact .inl (.inl (.inr ⟨_, x, hx, _, hm, by simp, by simp, by omega, by simp⟩))
   · rintro ((((⟨j, x, hx, y, hm, h1, h2, h3, h4⟩ | ⟨j, x, hx, y, hm, h1, h2, h3, h4⟩) | ⟨j, x, hx, y, hm, h1, h2, h3, h4⟩) | ⟨j, x, hx, y, hm, h1, h2, h3, h4⟩) | ⟨j, x, hx, ⟨y, hm, h1, h2, h3, h4⟩ | ⟨y, hm, h1, h2, h3, h4⟩⟩)
     · omega
     · omega
     · obtain rfl := (hz j).1 h3
       subst h1; exact ⟨x, hx, hm⟩
     all_goals omega
 by_cases k7 : op.kind = 7
 · simp only [k7, if_true, if_neg (show ¬ (7 : Int) = 2 by decide), if_neg (show ¬ (7 : Int) = 4 by decide), if_neg (show ¬ (7 : Int) = 6 by decide), if_neg (show ¬ ((7 : Int) = 2 ∨ (7 : Int) = 8) by decide)]
   constructor
   · rintro ⟨x, hx, hm⟩
     exact .inl (.inr ⟨_, x, hx, _, hm, by simp, by simp, by omega, by simp⟩)
   · rintro ((((⟨j, x, hx, y, hm, h1, h2, h3, h4⟩ | ⟨j, x, hx, y, hm, h1, h2, h3, h4⟩) | ⟨j, x, hx, y, hm, h1, h2, h3, h4⟩) | ⟨j, x, hx, y, hm, h1, h2, h3, h4⟩) | ⟨j, x, hx, ⟨y, hm, h1, h2, h3, h4⟩ | ⟨y, hm, h1, h2, h3, h4⟩⟩)
     · omega
     · omega
     · omega
     · obtain rfl := (hz j).1 h3
       subst h1; exact ⟨x, hx, hm⟩
     all_goals omega
 by_cases k8 : op.kind = 8
 · simp only [k8, if_true, if_neg (show ¬ (8 : Int) = 2 by decide), if_neg (show ¬ (8 : Int) = 4 by decide), if_neg (show ¬ (8 : Int) = 6 by decide), if_neg (show ¬ (8 : Int) = 7 by decide), or_true]
   constructor
   · rintro ⟨x, hx, hm⟩
     exact .inr ⟨_, x, hx, .inl ⟨_, hm, by simp, by simp, by omega, by simp⟩⟩
   · rintro ((((⟨j, x, hx, y, hm, h1, h2, h3, h4⟩ | ⟨j, x, hx, y, hm, h1, h2, h3, h4⟩) | ⟨j, x, hx, y, hm, h1, h2, h3, h4⟩) | ⟨j, x, hx, y, hm, h1, h2, h3, h4⟩) | ⟨j, x, hx, ⟨y, hm, h1, h2, h3, h4⟩ | ⟨y, hm, h1, h2, h3, h4⟩⟩)
     · omega
     · omega
     · omega
     · omega
     · obtain rfl := (hz j).1 h3
       refine ⟨x, hx, ?_⟩
       obtain ⟨a, b⟩ := y
       simp only at h1 h4; subst h1; subst h4; exact hm
     · omega
 by_cases k9 : op.kind = 9
 · simp only [k9, if_true, if_neg (show ¬ (9 : Int) = 2 by decide), if_neg (show ¬ (9 : Int) = 4 by decide), if_neg (show ¬ (9 : Int) = 6 by decide), if_neg (show ¬ (9 : Int) = 7 by decide), if_neg (show ¬ (9 : Int) = 8 by decide), if_neg (show ¬ ((9 : Int) = 2 ∨ (9 : Int) = 8) by decide)]
   constructor
   · rintro ⟨x, hx, hm⟩
     exact .inr ⟨_, x, hx, .inr ⟨_, hm, by simp, by simp, by omega, by simp⟩⟩
   · rintro ((((⟨j, x, hx, y, hm, h1, h2, h3, h4⟩ | ⟨j, x, hx, y, hm, h1, h2, h3, h4⟩) | ⟨j, x, hx, y, hm, h1, h2, h3, h4⟩) | ⟨j, x, hx, y, hm, h1, h2, h3, h4⟩) | ⟨j, x, hx, ⟨y, hm, h1, h2, h3, h4⟩ | ⟨y, hm, h1, h2, h3, h4⟩⟩)
     · omega
     · omega
     · omega
     · omega
     · omega
     · obtain rfl := (hz j).1 h3
       subst h1; exact ⟨x, hx, hm⟩
 simp only [k2, k4, k6, k7, k8, k9, if_false]
 constructor
 · exact False.elim
 · rintro ((((⟨j, x, hx, y, hm, h1, h2, h3, h4⟩ | ⟨j, x, hx, y, hm, h1, h2, h3, h4⟩) | ⟨j, x, hx, y, hm, h1, h2, h3, h4⟩) | ⟨j, x, hx, y, hm, h1, h2, h3, h4⟩) | ⟨j, x, hx, ⟨y, hm, h1, h2, h3, h4⟩ | ⟨y, hm, h1, h2, h3, h4⟩⟩) <;> omega
theorem xP : ∀ (i : Nat) (xs : List Once), ((evL gB i xs).map (·.2)).Nodup ∧ ∀ z ∈ (evL gB i xs).map (·.2), (i : Int) ≤ z
 | i, [] => by simp [evL]
 | i, x :: r => by
   obtain ⟨h1, h2⟩ := xP (i + 1) r
   simp only [evL, gB]
   split
   · simp only [List.singleton_append, List.map_cons, List.nodup_cons]
     refine ⟨⟨fun hm => ?_, h1⟩, fun z hz => ?_⟩
     · have := h2 _ hm; omega
     · rcases List.mem_cons.1 hz with rfl | hz
       · exact Int.le_refl _
       · have := h2 _ hz; omega
   · refine ⟨h1, fun z hz => ?_⟩
     have := h2 z hz; omega
theorem yV (s : State) (t : Int) : (aK (bO s) t).Nodup := by
 refine (xP 0 s.onces).1.sublist ?_
 exact (List.filter_sublist ..).map _
theorem gH {s : State} {t i : Int} : i ∈ aK (bO s) t ↔ ∃ (j : Nat) (x : Once), s.onces[j]? = some x ∧ x.state = 1 ∧ x.owner = t ∧ i = j := by
 rw [iH, bO, vY]
 constructor
 · rintro ⟨j, x, hx, hm⟩
   simp only [gB] at hm
   split at hm
   · rename_i h1
     simp only [List.mem_singleton, Prod.mk.injEq] at hm
     exact ⟨j, x, hx, h1, hm.1.symm, hm.2⟩
   · cases hm
 · rintro ⟨j, x, hx, h1, rfl, rfl⟩
   exact ⟨j, x, hx, by simp [gB, h1]⟩
theorem mI0 {l : List Int} {a : Int} (hd : l.Nodup) (hm : a ∈ l) (ha : ∀ x ∈ l, x = a) : l = [a] := by
 match l, hd, hm, ha with
 | [x], _, _, ha => rw [ha x (by simp)]
 | x :: y :: r, hd, _, ha =>
   have h1 := ha x (by simp)
   have h2 := ha y (by simp)
   simp [h1, h2] at hd
end Go.Proofs.YtchkcjeeknfchaaGreatDoor
