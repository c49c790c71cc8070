/- The exact laws' helpers for Lock. -/
import Derived.Test.YtpemppacedfifaaLb
namespace Go.Proofs.Ytpemppacedfifaa
open Go Go.Sx Go.RowKit

def Lock.small20 (m : Lock) : Prop := m.readers.length ≤ 1048576 ∧ m.queue.length ≤ 1048576
def szLockM (m : Lock) (left : Int) : Int := szStep m.readers.length left fun a0 => szStep m.queue.length a0 fun a1 => a1
theorem szLockM_ok {m : Lock} (h : ¬ szLockM m 1048576 < 0) : m.small20 := by
  simp only [szLockM, szStep, szN] at h
  simp only [Lock.small20]
  omega
set_option maxRecDepth 100000 in
theorem szLock_c (m : Lock) (s0 s1 : Sl) (left : Int) (w : World) (h : At w [slo s0 cInt 1 m.readers, slo s1 cWant 2 m.queue]) (h0 : -1 ≤ left) (h1 : left ≤ 1048576) :
    Calls Try.prog 33 #[lockV m s0 s1, .int .i64 left] w (Ret w fun v L => v = .int .i64 (szLockM m left) ∧ L = []) := by
  refine calls2 Try.func33 rfl tabOk w _ rfl _ rfl _ h ⟨rfl, rfl, rfl, rfl, trivial⟩ _ _ (by decide) ?_
  refine stop_call _ cl66 rfl rfl rfl rfl ⟨rfl, rfl⟩ (fun A w hW => szIntS_c s0 m.readers left w ⟨(by first | exact hW.rd 0 rfl | exact hW.rdOwn 0 rfl | exact hW.rd 1 rfl | exact hW.rdOwn 1 rfl | exact hW.rd 2 rfl | exact hW.rdOwn 2 rfl | exact hW.rd 3 rfl | exact hW.rdOwn 3 rfl | exact hW.rd 4 rfl | exact hW.rdOwn 4 rfl | exact hW.rd 5 rfl | exact hW.rdOwn 5 rfl | exact hW.rd 6 rfl | exact hW.rdOwn 6 rfl | exact hW.rd 7 rfl | exact hW.rdOwn 7 rfl | exact hW.rd 8 rfl | exact hW.rdOwn 8 rfl | exact hW.rd 9 rfl | exact hW.rdOwn 9 rfl | exact hW.rd 10 rfl | exact hW.rdOwn 10 rfl | exact hW.rd 11 rfl | exact hW.rdOwn 11 rfl | exact hW.rd 12 rfl | exact hW.rdOwn 12 rfl | exact hW.rd 13 rfl | exact hW.rdOwn 13 rfl | exact hW.rd 14 rfl | exact hW.rdOwn 14 rfl | exact hW.rd 15 rfl | exact hW.rdOwn 15 rfl | exact hW.rd 16 rfl | exact hW.rdOwn 16 rfl | exact hW.rd 17 rfl | exact hW.rdOwn 17 rfl | exact hW.rd 18 rfl | exact hW.rdOwn 18 rfl | exact hW.rd 19 rfl | exact hW.rdOwn 19 rfl | exact hW.rd 20 rfl | exact hW.rdOwn 20 rfl | exact hW.rd 21 rfl | exact hW.rdOwn 21 rfl | exact hW.rd 22 rfl | exact hW.rdOwn 22 rfl | exact hW.rd 23 rfl | exact hW.rdOwn 23 rfl), trivial⟩ h0 h1) ?_
  rintro v L ⟨rfl, rfl⟩
  refine CaseB.mk (fun g0 => ?_) (fun g0 => ?_)
  · have q : szN m.readers.length (left) < 0 := by simpa using g0
    refine retw [] ⟨?_, rfl⟩ trivial rfl trivial (fun _ => rfl)
    simp [szLockM, szStep, q]
  have q0 : ¬ szN m.readers.length (left) < 0 := by simpa using g0
  refine stop_call _ cl67 rfl rfl rfl rfl ⟨rfl, rfl⟩ (fun A w hW => szWantS_c s1 m.queue (szN m.readers.length (left)) w ⟨(by first | exact hW.rd 0 rfl | exact hW.rdOwn 0 rfl | exact hW.rd 1 rfl | exact hW.rdOwn 1 rfl | exact hW.rd 2 rfl | exact hW.rdOwn 2 rfl | exact hW.rd 3 rfl | exact hW.rdOwn 3 rfl | exact hW.rd 4 rfl | exact hW.rdOwn 4 rfl | exact hW.rd 5 rfl | exact hW.rdOwn 5 rfl | exact hW.rd 6 rfl | exact hW.rdOwn 6 rfl | exact hW.rd 7 rfl | exact hW.rdOwn 7 rfl | exact hW.rd 8 rfl | exact hW.rdOwn 8 rfl | exact hW.rd 9 rfl | exact hW.rdOwn 9 rfl | exact hW.rd 10 rfl | exact hW.rdOwn 10 rfl | exact hW.rd 11 rfl | exact hW.rdOwn 11 rfl | exact hW.rd 12 rfl | exact hW.rdOwn 12 rfl | exact hW.rd 13 rfl | exact hW.rdOwn 13 rfl | exact hW.rd 14 rfl | exact hW.rdOwn 14 rfl | exact hW.rd 15 rfl | exact hW.rdOwn 15 rfl | exact hW.rd 16 rfl | exact hW.rdOwn 16 rfl | exact hW.rd 17 rfl | exact hW.rdOwn 17 rfl | exact hW.rd 18 rfl | exact hW.rdOwn 18 rfl | exact hW.rd 19 rfl | exact hW.rdOwn 19 rfl | exact hW.rd 20 rfl | exact hW.rdOwn 20 rfl | exact hW.rd 21 rfl | exact hW.rdOwn 21 rfl | exact hW.rd 22 rfl | exact hW.rdOwn 22 rfl | exact hW.rd 23 rfl | exact hW.rdOwn 23 rfl), trivial⟩ (by simp only [szN]; (repeat' split) <;> omega) (by simp only [szN]; (repeat' split) <;> omega)) ?_
  rintro v L ⟨rfl, rfl⟩
  refine CaseB.mk (fun g1 => ?_) (fun g1 => ?_)
  · have q : szN m.queue.length (szN m.readers.length (left)) < 0 := by simpa using g1
    refine retw [] ⟨?_, rfl⟩ trivial rfl trivial (fun _ => rfl)
    simp [szLockM, szStep, q, q0]
  have q1 : ¬ szN m.queue.length (szN m.readers.length (left)) < 0 := by simpa using g1
  refine retw [] ⟨?_, rfl⟩ trivial rfl trivial (fun _ => rfl)
  simp [szLockM, szStep, q0, q1]

set_option maxRecDepth 100000 in
theorem toLock_c (m : Lock) (s0 s1 : Sl) (w : World) (h : At w [slo s0 cInt 1 m.readers, slo s1 cWant 2 m.queue]) (hb : m.small20) :
    Calls Try.prog 34 #[lockV m s0 s1] w (Ret w fun v L => ∃ y0 y1 : Sl, v = lockV m y0 y1 ∧ L = [own y0 3 cInt 1 m.readers, own y1 32 cWant 2 m.queue]) := by
  obtain ⟨b0, b1⟩ := hb
  refine calls1 Try.func34 rfl tabOk w _ rfl _ rfl _ h ⟨rfl, rfl, rfl, rfl, trivial⟩ _ (by decide) ?_
  refine stop_call _ cl68 rfl rfl rfl rfl ⟨rfl, rfl⟩ (fun A w hW => toIntS_c s0 m.readers w ⟨(by first | exact hW.rd 0 rfl | exact hW.rdOwn 0 rfl | exact hW.rd 1 rfl | exact hW.rdOwn 1 rfl | exact hW.rd 2 rfl | exact hW.rdOwn 2 rfl | exact hW.rd 3 rfl | exact hW.rdOwn 3 rfl | exact hW.rd 4 rfl | exact hW.rdOwn 4 rfl | exact hW.rd 5 rfl | exact hW.rdOwn 5 rfl | exact hW.rd 6 rfl | exact hW.rdOwn 6 rfl | exact hW.rd 7 rfl | exact hW.rdOwn 7 rfl | exact hW.rd 8 rfl | exact hW.rdOwn 8 rfl | exact hW.rd 9 rfl | exact hW.rdOwn 9 rfl | exact hW.rd 10 rfl | exact hW.rdOwn 10 rfl | exact hW.rd 11 rfl | exact hW.rdOwn 11 rfl | exact hW.rd 12 rfl | exact hW.rdOwn 12 rfl | exact hW.rd 13 rfl | exact hW.rdOwn 13 rfl | exact hW.rd 14 rfl | exact hW.rdOwn 14 rfl | exact hW.rd 15 rfl | exact hW.rdOwn 15 rfl | exact hW.rd 16 rfl | exact hW.rdOwn 16 rfl | exact hW.rd 17 rfl | exact hW.rdOwn 17 rfl | exact hW.rd 18 rfl | exact hW.rdOwn 18 rfl | exact hW.rd 19 rfl | exact hW.rdOwn 19 rfl | exact hW.rd 20 rfl | exact hW.rdOwn 20 rfl | exact hW.rd 21 rfl | exact hW.rdOwn 21 rfl | exact hW.rd 22 rfl | exact hW.rdOwn 22 rfl | exact hW.rd 23 rfl | exact hW.rdOwn 23 rfl), trivial⟩ b0) ?_
  rintro v L ⟨y0, rfl, rfl⟩
  refine stop_call _ cl69 rfl rfl rfl rfl ⟨rfl, rfl⟩ (fun A w hW => toWantS_c s1 m.queue w ⟨(by first | exact hW.rd 0 rfl | exact hW.rdOwn 0 rfl | exact hW.rd 1 rfl | exact hW.rdOwn 1 rfl | exact hW.rd 2 rfl | exact hW.rdOwn 2 rfl | exact hW.rd 3 rfl | exact hW.rdOwn 3 rfl | exact hW.rd 4 rfl | exact hW.rdOwn 4 rfl | exact hW.rd 5 rfl | exact hW.rdOwn 5 rfl | exact hW.rd 6 rfl | exact hW.rdOwn 6 rfl | exact hW.rd 7 rfl | exact hW.rdOwn 7 rfl | exact hW.rd 8 rfl | exact hW.rdOwn 8 rfl | exact hW.rd 9 rfl | exact hW.rdOwn 9 rfl | exact hW.rd 10 rfl | exact hW.rdOwn 10 rfl | exact hW.rd 11 rfl | exact hW.rdOwn 11 rfl | exact hW.rd 12 rfl | exact hW.rdOwn 12 rfl | exact hW.rd 13 rfl | exact hW.rdOwn 13 rfl | exact hW.rd 14 rfl | exact hW.rdOwn 14 rfl | exact hW.rd 15 rfl | exact hW.rdOwn 15 rfl | exact hW.rd 16 rfl | exact hW.rdOwn 16 rfl | exact hW.rd 17 rfl | exact hW.rdOwn 17 rfl | exact hW.rd 18 rfl | exact hW.rdOwn 18 rfl | exact hW.rd 19 rfl | exact hW.rdOwn 19 rfl | exact hW.rd 20 rfl | exact hW.rdOwn 20 rfl | exact hW.rd 21 rfl | exact hW.rdOwn 21 rfl | exact hW.rd 22 rfl | exact hW.rdOwn 22 rfl | exact hW.rd 23 rfl | exact hW.rdOwn 23 rfl), trivial⟩ b1) ?_
  rintro v L ⟨y1, rfl, rfl⟩
  exact retw [1, 0] ⟨y0, y1, rfl, rfl⟩ ⟨.inl ⟨_, rfl, rfl⟩, .inl ⟨_, rfl, rfl⟩, trivial⟩ rfl ⟨rfl, rfl, trivial⟩ (fun _ => rfl)

set_option maxRecDepth 100000 in
theorem eqLock_c (m m2 : Lock) (s0 s1 u0 u1 : Sl) (w : World) (h : At w [slo s0 cInt 1 m.readers, slo s1 cWant 2 m.queue, slo u0 cInt 1 m2.readers, slo u1 cWant 2 m2.queue]) (hb : m.small20) (hb2 : m2.small20) :
    Calls Try.prog 35 #[lockV m s0 s1, lockV m2 u0 u1] w (Ret w fun v L => v = .bool (decide (m = m2)) ∧ L = []) := by
  have hx : ∀ {a b : Lock}, a = b ↔ a.readers = b.readers ∧ a.writer = b.writer ∧ a.queue = b.queue := fun {a b} => ⟨fun h => by subst h; exact ⟨rfl, rfl, rfl⟩, fun h => by cases a; cases b; simp_all⟩
  obtain ⟨b0, b1⟩ := hb
  obtain ⟨c0, c1⟩ := hb2
  refine calls2 Try.func35 rfl tabOk w _ rfl _ rfl _ h ⟨rfl, rfl, rfl, rfl, rfl, rfl, rfl, rfl, trivial⟩ _ _ (by decide) ?_
  refine stop_call _ cl36 rfl rfl rfl rfl ⟨rfl, rfl⟩ (fun A w hW => eqIntS_c s0 u0 m.readers m2.readers w ⟨(by first | exact hW.rd 0 rfl | exact hW.rdOwn 0 rfl | exact hW.rd 1 rfl | exact hW.rdOwn 1 rfl | exact hW.rd 2 rfl | exact hW.rdOwn 2 rfl | exact hW.rd 3 rfl | exact hW.rdOwn 3 rfl | exact hW.rd 4 rfl | exact hW.rdOwn 4 rfl | exact hW.rd 5 rfl | exact hW.rdOwn 5 rfl | exact hW.rd 6 rfl | exact hW.rdOwn 6 rfl | exact hW.rd 7 rfl | exact hW.rdOwn 7 rfl | exact hW.rd 8 rfl | exact hW.rdOwn 8 rfl | exact hW.rd 9 rfl | exact hW.rdOwn 9 rfl | exact hW.rd 10 rfl | exact hW.rdOwn 10 rfl | exact hW.rd 11 rfl | exact hW.rdOwn 11 rfl | exact hW.rd 12 rfl | exact hW.rdOwn 12 rfl | exact hW.rd 13 rfl | exact hW.rdOwn 13 rfl | exact hW.rd 14 rfl | exact hW.rdOwn 14 rfl | exact hW.rd 15 rfl | exact hW.rdOwn 15 rfl | exact hW.rd 16 rfl | exact hW.rdOwn 16 rfl | exact hW.rd 17 rfl | exact hW.rdOwn 17 rfl | exact hW.rd 18 rfl | exact hW.rdOwn 18 rfl | exact hW.rd 19 rfl | exact hW.rdOwn 19 rfl | exact hW.rd 20 rfl | exact hW.rdOwn 20 rfl | exact hW.rd 21 rfl | exact hW.rdOwn 21 rfl | exact hW.rd 22 rfl | exact hW.rdOwn 22 rfl | exact hW.rd 23 rfl | exact hW.rdOwn 23 rfl), (by first | exact hW.rd 0 rfl | exact hW.rdOwn 0 rfl | exact hW.rd 1 rfl | exact hW.rdOwn 1 rfl | exact hW.rd 2 rfl | exact hW.rdOwn 2 rfl | exact hW.rd 3 rfl | exact hW.rdOwn 3 rfl | exact hW.rd 4 rfl | exact hW.rdOwn 4 rfl | exact hW.rd 5 rfl | exact hW.rdOwn 5 rfl | exact hW.rd 6 rfl | exact hW.rdOwn 6 rfl | exact hW.rd 7 rfl | exact hW.rdOwn 7 rfl | exact hW.rd 8 rfl | exact hW.rdOwn 8 rfl | exact hW.rd 9 rfl | exact hW.rdOwn 9 rfl | exact hW.rd 10 rfl | exact hW.rdOwn 10 rfl | exact hW.rd 11 rfl | exact hW.rdOwn 11 rfl | exact hW.rd 12 rfl | exact hW.rdOwn 12 rfl | exact hW.rd 13 rfl | exact hW.rdOwn 13 rfl | exact hW.rd 14 rfl | exact hW.rdOwn 14 rfl | exact hW.rd 15 rfl | exact hW.rdOwn 15 rfl | exact hW.rd 16 rfl | exact hW.rdOwn 16 rfl | exact hW.rd 17 rfl | exact hW.rdOwn 17 rfl | exact hW.rd 18 rfl | exact hW.rdOwn 18 rfl | exact hW.rd 19 rfl | exact hW.rdOwn 19 rfl | exact hW.rd 20 rfl | exact hW.rdOwn 20 rfl | exact hW.rd 21 rfl | exact hW.rdOwn 21 rfl | exact hW.rd 22 rfl | exact hW.rdOwn 22 rfl | exact hW.rd 23 rfl | exact hW.rdOwn 23 rfl), trivial⟩ (by omega) (by omega)) ?_
  rintro v L ⟨rfl, rfl⟩
  refine CaseB.mk (fun h0 => ?_) (fun h0 => ?_)
  · have g : ¬ m = m2 := fun e => by subst e; simp at h0
    exact retw [] ⟨by simp [g], rfl⟩ trivial rfl trivial (fun _ => rfl)
  refine CaseB.mk (fun h1 => ?_) (fun h1 => ?_)
  · have g : ¬ m = m2 := fun e => by subst e; simp at h1
    exact retw [] ⟨by simp [g], rfl⟩ trivial rfl trivial (fun _ => rfl)
  refine stop_call _ cl70 rfl rfl rfl rfl ⟨rfl, rfl⟩ (fun A w hW => eqWantS_c s1 u1 m.queue m2.queue w ⟨(by first | exact hW.rd 0 rfl | exact hW.rdOwn 0 rfl | exact hW.rd 1 rfl | exact hW.rdOwn 1 rfl | exact hW.rd 2 rfl | exact hW.rdOwn 2 rfl | exact hW.rd 3 rfl | exact hW.rdOwn 3 rfl | exact hW.rd 4 rfl | exact hW.rdOwn 4 rfl | exact hW.rd 5 rfl | exact hW.rdOwn 5 rfl | exact hW.rd 6 rfl | exact hW.rdOwn 6 rfl | exact hW.rd 7 rfl | exact hW.rdOwn 7 rfl | exact hW.rd 8 rfl | exact hW.rdOwn 8 rfl | exact hW.rd 9 rfl | exact hW.rdOwn 9 rfl | exact hW.rd 10 rfl | exact hW.rdOwn 10 rfl | exact hW.rd 11 rfl | exact hW.rdOwn 11 rfl | exact hW.rd 12 rfl | exact hW.rdOwn 12 rfl | exact hW.rd 13 rfl | exact hW.rdOwn 13 rfl | exact hW.rd 14 rfl | exact hW.rdOwn 14 rfl | exact hW.rd 15 rfl | exact hW.rdOwn 15 rfl | exact hW.rd 16 rfl | exact hW.rdOwn 16 rfl | exact hW.rd 17 rfl | exact hW.rdOwn 17 rfl | exact hW.rd 18 rfl | exact hW.rdOwn 18 rfl | exact hW.rd 19 rfl | exact hW.rdOwn 19 rfl | exact hW.rd 20 rfl | exact hW.rdOwn 20 rfl | exact hW.rd 21 rfl | exact hW.rdOwn 21 rfl | exact hW.rd 22 rfl | exact hW.rdOwn 22 rfl | exact hW.rd 23 rfl | exact hW.rdOwn 23 rfl), (by first | exact hW.rd 0 rfl | exact hW.rdOwn 0 rfl | exact hW.rd 1 rfl | exact hW.rdOwn 1 rfl | exact hW.rd 2 rfl | exact hW.rdOwn 2 rfl | exact hW.rd 3 rfl | exact hW.rdOwn 3 rfl | exact hW.rd 4 rfl | exact hW.rdOwn 4 rfl | exact hW.rd 5 rfl | exact hW.rdOwn 5 rfl | exact hW.rd 6 rfl | exact hW.rdOwn 6 rfl | exact hW.rd 7 rfl | exact hW.rdOwn 7 rfl | exact hW.rd 8 rfl | exact hW.rdOwn 8 rfl | exact hW.rd 9 rfl | exact hW.rdOwn 9 rfl | exact hW.rd 10 rfl | exact hW.rdOwn 10 rfl | exact hW.rd 11 rfl | exact hW.rdOwn 11 rfl | exact hW.rd 12 rfl | exact hW.rdOwn 12 rfl | exact hW.rd 13 rfl | exact hW.rdOwn 13 rfl | exact hW.rd 14 rfl | exact hW.rdOwn 14 rfl | exact hW.rd 15 rfl | exact hW.rdOwn 15 rfl | exact hW.rd 16 rfl | exact hW.rdOwn 16 rfl | exact hW.rd 17 rfl | exact hW.rdOwn 17 rfl | exact hW.rd 18 rfl | exact hW.rdOwn 18 rfl | exact hW.rd 19 rfl | exact hW.rdOwn 19 rfl | exact hW.rd 20 rfl | exact hW.rdOwn 20 rfl | exact hW.rd 21 rfl | exact hW.rdOwn 21 rfl | exact hW.rd 22 rfl | exact hW.rdOwn 22 rfl | exact hW.rd 23 rfl | exact hW.rdOwn 23 rfl), trivial⟩ (by omega) (by omega)) ?_
  rintro v L ⟨rfl, rfl⟩
  refine CaseB.mk (fun h2 => ?_) (fun h2 => ?_)
  · have g : ¬ m = m2 := fun e => by subst e; simp at h2
    exact retw [] ⟨by simp [g], rfl⟩ trivial rfl trivial (fun _ => rfl)
  have g : m = m2 := hx.2 ⟨by simpa using h0, by simpa using h1, by simpa using h2⟩
  exact retw [] ⟨by simp [g], rfl⟩ trivial rfl trivial (fun _ => rfl)

set_option maxRecDepth 100000 in
theorem markLock_c (m : Lock) (s0 s1 : Sl) (k : Nat) (w : World) (h : AtG w [own s0 3 cInt 1 m.readers, own s1 32 cWant 2 m.queue] []) (hb : m.small20) (hk : k ≤ 536870912) :
    Calls Try.prog 37 #[lockV m s0 s1, .int .i64 (k : Int)] w (RetG w [own s0 3 cInt 1 m.readers, own s1 32 cWant 2 m.queue] fun v L => v = .int .i64 ((k + m.readers.length + 2 * m.queue.length : Nat) : Int) ∧ L = [own s0 3 cInt 1 (marks (k) m.readers.length), own s1 32 cWant 2 (marksWant (k + m.readers.length) m.queue.length)]) := by
  obtain ⟨b0, b1⟩ := hb
  refine callsG_fn Try.func37 rfl tabOk w _ rfl _ rfl _ _ h trivial _ _ rfl rfl ?_
  refine stop_callG _ [0] (G := [_]) cl38 rfl rfl rfl rfl ⟨rfl, rfl⟩ ⟨rfl, trivial⟩ ⟨rfl, rfl, trivial⟩ (fun A w hW => (markIntS_c s0 m.readers (k) w (hW.atG [0] (G := [_]) ⟨rfl, trivial⟩ rfl ⟨rfl, rfl, trivial⟩ [] (Fo := []) trivial rfl) (by omega) (by omega))) ?_
  rintro v L ⟨rfl, rfl⟩
  refine stop_callG _ [1] (G := [_]) cl71 rfl rfl rfl rfl ⟨rfl, rfl⟩ ⟨rfl, trivial⟩ ⟨rfl, rfl, trivial⟩ (fun A w hW => (markWantS_c s1 m.queue (k + m.readers.length) w (hW.atG [1] (G := [_]) ⟨rfl, trivial⟩ rfl ⟨rfl, rfl, trivial⟩ [] (Fo := []) trivial rfl) (by omega) (by omega))) ?_
  rintro v L ⟨rfl, rfl⟩
  exact retG [1, 0] ⟨rfl, rfl⟩ ⟨.inl ⟨_, rfl, rfl⟩, .inl ⟨_, rfl, rfl⟩, trivial⟩ rfl ⟨rfl, rfl, trivial⟩ (fun _ => rfl)

set_option maxRecDepth 100000 in
theorem heldLock_c (x_writer : Int) (s0 s1 : Sl) (n0 n1 k : Nat) (w : World) (h : At w [slo s0 cInt 1 (marks (k) n0), slo s1 cWant 2 (marksWant (k + n0) n1)]) (hb : n0 ≤ 1048576 ∧ n1 ≤ 1048576) (hk : k ≤ 536870912) :
    Calls Try.prog 39 #[.agg #[s0.val n0, .int .i64 x_writer, s1.val n1], .int .i64 (k : Int)] w (Ret w fun v L => v = .int .i64 ((k + n0 + 2 * n1 : Nat) : Int) ∧ L = []) := by
  obtain ⟨b0, b1⟩ := hb
  refine calls2 Try.func39 rfl tabOk w _ rfl _ rfl _ h ⟨rfl, rfl, rfl, rfl, trivial⟩ _ _ (by decide) ?_
  refine stop_call _ cl40 rfl rfl rfl rfl ⟨rfl, rfl⟩ (fun A w hW => (heldIntS_n s0 (k) n0 w ⟨(by first | exact hW.rd 0 rfl | exact hW.rdOwn 0 rfl | exact hW.rd 1 rfl | exact hW.rdOwn 1 rfl | exact hW.rd 2 rfl | exact hW.rdOwn 2 rfl | exact hW.rd 3 rfl | exact hW.rdOwn 3 rfl | exact hW.rd 4 rfl | exact hW.rdOwn 4 rfl | exact hW.rd 5 rfl | exact hW.rdOwn 5 rfl | exact hW.rd 6 rfl | exact hW.rdOwn 6 rfl | exact hW.rd 7 rfl | exact hW.rdOwn 7 rfl | exact hW.rd 8 rfl | exact hW.rdOwn 8 rfl | exact hW.rd 9 rfl | exact hW.rdOwn 9 rfl | exact hW.rd 10 rfl | exact hW.rdOwn 10 rfl | exact hW.rd 11 rfl | exact hW.rdOwn 11 rfl | exact hW.rd 12 rfl | exact hW.rdOwn 12 rfl | exact hW.rd 13 rfl | exact hW.rdOwn 13 rfl | exact hW.rd 14 rfl | exact hW.rdOwn 14 rfl | exact hW.rd 15 rfl | exact hW.rdOwn 15 rfl | exact hW.rd 16 rfl | exact hW.rdOwn 16 rfl | exact hW.rd 17 rfl | exact hW.rdOwn 17 rfl | exact hW.rd 18 rfl | exact hW.rdOwn 18 rfl | exact hW.rd 19 rfl | exact hW.rdOwn 19 rfl | exact hW.rd 20 rfl | exact hW.rdOwn 20 rfl | exact hW.rd 21 rfl | exact hW.rdOwn 21 rfl | exact hW.rd 22 rfl | exact hW.rdOwn 22 rfl | exact hW.rd 23 rfl | exact hW.rdOwn 23 rfl), trivial⟩ (by omega) (by omega))) ?_
  rintro v L ⟨rfl, rfl⟩
  refine CaseB.mk (fun g => by simp at g; omega) (fun _ => ?_)
  refine stop_call _ cl72 rfl rfl rfl rfl ⟨rfl, rfl⟩ (fun A w hW => (heldWantS_n s1 (k + n0) n1 w ⟨(by first | exact hW.rd 0 rfl | exact hW.rdOwn 0 rfl | exact hW.rd 1 rfl | exact hW.rdOwn 1 rfl | exact hW.rd 2 rfl | exact hW.rdOwn 2 rfl | exact hW.rd 3 rfl | exact hW.rdOwn 3 rfl | exact hW.rd 4 rfl | exact hW.rdOwn 4 rfl | exact hW.rd 5 rfl | exact hW.rdOwn 5 rfl | exact hW.rd 6 rfl | exact hW.rdOwn 6 rfl | exact hW.rd 7 rfl | exact hW.rdOwn 7 rfl | exact hW.rd 8 rfl | exact hW.rdOwn 8 rfl | exact hW.rd 9 rfl | exact hW.rdOwn 9 rfl | exact hW.rd 10 rfl | exact hW.rdOwn 10 rfl | exact hW.rd 11 rfl | exact hW.rdOwn 11 rfl | exact hW.rd 12 rfl | exact hW.rdOwn 12 rfl | exact hW.rd 13 rfl | exact hW.rdOwn 13 rfl | exact hW.rd 14 rfl | exact hW.rdOwn 14 rfl | exact hW.rd 15 rfl | exact hW.rdOwn 15 rfl | exact hW.rd 16 rfl | exact hW.rdOwn 16 rfl | exact hW.rd 17 rfl | exact hW.rdOwn 17 rfl | exact hW.rd 18 rfl | exact hW.rdOwn 18 rfl | exact hW.rd 19 rfl | exact hW.rdOwn 19 rfl | exact hW.rd 20 rfl | exact hW.rdOwn 20 rfl | exact hW.rd 21 rfl | exact hW.rdOwn 21 rfl | exact hW.rd 22 rfl | exact hW.rdOwn 22 rfl | exact hW.rd 23 rfl | exact hW.rdOwn 23 rfl), trivial⟩ (by omega) (by omega))) ?_
  rintro v L ⟨rfl, rfl⟩
  refine CaseB.mk (fun g => by simp at g; omega) (fun _ => ?_)
  exact retw [] ⟨rfl, rfl⟩ trivial rfl trivial (fun _ => rfl)
end Go.Proofs.Ytpemppacedfifaa

