/- FnExactDowngrade: the walk. -/
import Derived.Test.YtpemppacedfifaaLc
import Derived.Test.YtpemppacedfifaaLm
namespace Go.Proofs.Ytpemppacedfifaa
open Go Go.Sx Go.RowKit

set_option maxHeartbeats 16000000 in
set_option maxRecDepth 100000 in
theorem exactDown_c (m : Lock) (s0 s1 : Sl) (t : Int) (w : World) (h : At w [slo s0 cInt 1 m.readers, slo s1 cWant 2 m.queue]) :
    Calls Try.prog 8 #[lockV m s0 s1, .int .i64 t] w (Ret w fun v L => v = .bool true ∧ L = []) := by
  refine calls2 Try.func8 rfl tabOk w _ rfl _ rfl _ h ⟨rfl, rfl, rfl, rfl, trivial⟩ _ _ (by decide) ?_
  refine stop_call _ cl33 rfl rfl rfl rfl ⟨rfl, rfl⟩ (fun A w hW => (szLock_c m s0 s1 1048576 w ⟨hW.rd 0 rfl, hW.rd 1 rfl, trivial⟩ (by omega) (by omega))) ?_
  rintro v L ⟨rfl, rfl⟩
  refine CaseB.mk (fun _ => ?_) (fun hz => ?_)
  · exact retw [] ⟨rfl, rfl⟩ trivial rfl trivial (fun _ => rfl)
  have hb : m.small20 := szLockM_ok (by simpa using hz)
  have hs : m.small := Lock.small20_small hb
  refine stop_call _ cl34 rfl rfl rfl rfl ⟨rfl, rfl⟩ (fun A w hW => (toLock_c m s0 s1 w ⟨hW.rd 0 rfl, hW.rd 1 rfl, trivial⟩ hb)) ?_
  rintro v L ⟨t0, t1, rfl, rfl⟩
  obtain ⟨hx8, hl1⟩ := down_s8 m t
  generalize hp : m.down t = p at hx8 hl1
  obtain ⟨x, r1, r2⟩ := p
  simp only at hx8 hl1
  have hx20 : x.small20 := Lock.small8_20 hx8
  have hx8' := hx8
  obtain ⟨e0, e1⟩ := hx8'
  refine stop_call _ cl29 rfl rfl rfl rfl ⟨rfl, rfl⟩ (fun A w hW => (downS_c m t0 t1 t w ⟨hW.rdOwn 0 rfl, hW.rdOwn 1 rfl, trivial⟩ hs)) ?_
  rw [hp]
  rintro v L ⟨w0, w1, wr1, rfl, rfl⟩
  refine stop_call _ cl34 rfl rfl rfl rfl ⟨rfl, rfl⟩ (fun A w hW => (toLock_c m s0 s1 w ⟨hW.rd 5 rfl, hW.rd 6 rfl, trivial⟩ hb)) ?_
  rintro v L ⟨x0, x1, rfl, rfl⟩
  refine stop_call _ cl28 rfl rfl rfl rfl ⟨rfl, rfl⟩ (fun A w hW => (down_c m x0 x1 t w ⟨hW.rdOwn 0 rfl, hW.rdOwn 1 rfl, trivial⟩ hs)) ?_
  rw [hp]
  rintro v L ⟨g0, g1, gr1, rfl, rfl⟩
  refine stop_call _ cl35 rfl rfl rfl rfl ⟨rfl, rfl⟩ (fun A w hW => (eqLock_c x x g0 g1 w0 w1 w ⟨hW.rdOwn 0 rfl, hW.rdOwn 1 rfl, hW.rdOwn 5 rfl, hW.rdOwn 6 rfl, trivial⟩ hx20 hx20)) ?_
  rintro v L ⟨rfl, rfl⟩
  refine CaseB.mk (fun h => by simp at h) (fun _ => ?_)
  refine stop_call _ cl36 rfl rfl rfl rfl ⟨rfl, rfl⟩ (fun A w hW => (eqIntS_c gr1 wr1 r1 r1 w ⟨hW.rdOwn 2 rfl, hW.rdOwn 7 rfl, trivial⟩ (by omega) (by omega))) ?_
  rintro v L ⟨rfl, rfl⟩
  refine CaseB.mk (fun h => by simp at h) (fun _ => ?_)
  refine CaseB.mk (fun h => by simp at h) (fun _ => ?_)
  refine draw_start tabOk (by kernel_rfl) (by kernel_rfl) (by kernel_rfl) 200 [((0, 0), .v (s0.val m.readers.length)), ((0, 1), .v (.int .i64 m.writer)), ((0, 2), .v (s1.val m.queue.length)), ((2, 0), .v (x0.val m.readers.length)), ((2, 1), .v (.int .i64 m.writer)), ((2, 2), .v (x1.val m.queue.length))] [] [] ⟨⟨_, rfl, rfl, (by first | exact trivial | exact Nat.le_of_ble_eq_true rfl)⟩, ⟨_, rfl, rfl, (by first | exact trivial | exact Nat.le_of_ble_eq_true rfl)⟩, ⟨_, rfl, rfl, (by first | exact trivial | exact Nat.le_of_ble_eq_true rfl)⟩, ⟨_, rfl, rfl, (by first | exact trivial | exact Nat.le_of_ble_eq_true rfl)⟩, ⟨_, rfl, rfl, (by first | exact trivial | exact Nat.le_of_ble_eq_true rfl)⟩, ⟨_, rfl, rfl, (by first | exact trivial | exact Nat.le_of_ble_eq_true rfl)⟩, trivial⟩ ⟨⟨_, rfl⟩, ⟨_, rfl⟩, ⟨_, rfl⟩, ⟨_, rfl⟩, ⟨_, rfl⟩, ⟨_, rfl⟩, trivial⟩ trivial rfl ?_
  refine d_call _ cl34 rfl rfl rfl rfl ⟨rfl, rfl⟩ (fun A w hW => (toLock_c m s0 s1 w ⟨hW.rd 10 rfl, hW.rd 11 rfl, trivial⟩ hb)) ?_
  rintro v L ⟨y0, y1, rfl, rfl⟩
  refine d_call _ cl35 rfl rfl rfl rfl ⟨rfl, rfl⟩ (fun A w hW => (eqLock_c m m x0 x1 y0 y1 w ⟨hW.rdOwn 5 rfl, hW.rdOwn 6 rfl, hW.rdOwn 0 rfl, hW.rdOwn 1 rfl, trivial⟩ hb hb)) ?_
  rintro v L ⟨rfl, rfl⟩
  refine CaseB.mk (fun h => by simp at h) (fun _ => ?_)
  refine stop_callG _ [5, 6] (G := [_, _]) cl37 rfl rfl rfl rfl ⟨rfl, rfl⟩ ⟨rfl, rfl, trivial⟩ ⟨rfl, rfl, rfl, rfl, trivial⟩ (fun A w hW => (markLock_c m x0 x1 (1) w (hW.atG [5, 6] (G := [_, _]) ⟨rfl, rfl, trivial⟩ rfl ⟨rfl, rfl, rfl, rfl, trivial⟩ [] (Fo := []) trivial rfl) hb (by omega))) ?_
  rintro v L ⟨rfl, rfl⟩
  refine CaseB.mk (fun h => by simp at h; omega) (fun _ => ?_)
  refine stop_call _ cl35 rfl rfl rfl rfl ⟨rfl, rfl⟩ (fun A w hW => (eqLock_c x x g0 g1 w0 w1 w ⟨hW.rdOwn 4 rfl, hW.rdOwn 5 rfl, hW.rdOwn 7 rfl, hW.rdOwn 8 rfl, trivial⟩ hx20 hx20)) ?_
  rintro v L ⟨rfl, rfl⟩
  refine CaseB.mk (fun h => by simp at h) (fun _ => ?_)
  refine stop_call _ cl36 rfl rfl rfl rfl ⟨rfl, rfl⟩ (fun A w hW => (eqIntS_c gr1 wr1 r1 r1 w ⟨hW.rdOwn 6 rfl, hW.rdOwn 9 rfl, trivial⟩ (by omega) (by omega))) ?_
  rintro v L ⟨rfl, rfl⟩
  refine CaseB.mk (fun h => by simp at h) (fun _ => ?_)
  refine CaseB.mk (fun h => by simp at h) (fun _ => ?_)
  refine stop_callG _ [4, 5] (G := [_, _]) cl37 rfl rfl rfl rfl ⟨rfl, rfl⟩ ⟨rfl, rfl, trivial⟩ ⟨rfl, rfl, rfl, rfl, trivial⟩ (fun A w hW => (markLock_c x g0 g1 (1) w (hW.atG [4, 5] (G := [_, _]) ⟨rfl, rfl, trivial⟩ rfl ⟨rfl, rfl, rfl, rfl, trivial⟩ [] (Fo := []) trivial rfl) hx20 (by omega))) ?_
  rintro v L ⟨rfl, rfl⟩
  refine stop_callG _ [6] (G := [_]) cl38 rfl rfl rfl rfl ⟨rfl, rfl⟩ ⟨rfl, trivial⟩ ⟨rfl, rfl, trivial⟩ (fun A w hW => (markIntS_c gr1 r1 (1 + x.readers.length + 2 * x.queue.length) w (hW.atG [6] (G := [_]) ⟨rfl, trivial⟩ rfl ⟨rfl, rfl, trivial⟩ [] (Fo := []) trivial rfl) (by omega) (by omega))) ?_
  rintro v L ⟨rfl, rfl⟩
  refine stop_call _ cl39 rfl rfl rfl rfl ⟨rfl, rfl⟩ (fun A w hW => (heldLock_c x.writer g0 g1 x.readers.length x.queue.length (1) w ⟨hW.rdOwn 1 rfl, hW.rdOwn 2 rfl, trivial⟩ ⟨by omega, by omega⟩ (by omega))) ?_
  rintro v L ⟨rfl, rfl⟩
  refine CaseB.mk (fun h => by simp at h; omega) (fun _ => ?_)
  refine stop_call _ cl40 rfl rfl rfl rfl ⟨rfl, rfl⟩ (fun A w hW => (heldIntS_n gr1 (1 + x.readers.length + 2 * x.queue.length) r1.length w ⟨hW.rdOwn 0 rfl, trivial⟩ (by omega) (by omega))) ?_
  rintro v L ⟨rfl, rfl⟩
  refine CaseB.mk (fun h => by simp at h; omega) (fun _ => ?_)
  refine CaseB.mk (fun h => by simp at h) (fun _ => ?_)
  refine stop_call _ cl34 rfl rfl rfl rfl ⟨rfl, rfl⟩ (fun A w hW => (toLock_c m s0 s1 w ⟨hW.rd 12 rfl, hW.rd 13 rfl, trivial⟩ hb)) ?_
  rintro v L ⟨z0, z1, rfl, rfl⟩
  refine stop_call _ cl28 rfl rfl rfl rfl ⟨rfl, rfl⟩ (fun A w hW => (down_c m z0 z1 t w ⟨hW.rdOwn 0 rfl, hW.rdOwn 1 rfl, trivial⟩ hs)) ?_
  rw [hp]
  rintro v L ⟨h0, h1, hr1, rfl, rfl⟩
  refine stop_call _ cl35 rfl rfl rfl rfl ⟨rfl, rfl⟩ (fun A w hW => (eqLock_c x x h0 h1 w0 w1 w ⟨hW.rdOwn 0 rfl, hW.rdOwn 1 rfl, hW.rdOwn 12 rfl, hW.rdOwn 13 rfl, trivial⟩ hx20 hx20)) ?_
  rintro v L ⟨rfl, rfl⟩
  refine CaseB.mk (fun h => by simp at h) (fun _ => ?_)
  refine stop_call _ cl36 rfl rfl rfl rfl ⟨rfl, rfl⟩ (fun A w hW => (eqIntS_c hr1 wr1 r1 r1 w ⟨hW.rdOwn 2 rfl, hW.rdOwn 14 rfl, trivial⟩ (by omega) (by omega))) ?_
  rintro v L ⟨rfl, rfl⟩
  refine CaseB.mk (fun h => by simp at h) (fun _ => ?_)
  refine CaseB.mk (fun h => by simp at h) (fun _ => ?_)
  refine stop_call _ cl39 rfl rfl rfl rfl ⟨rfl, rfl⟩ (fun A w hW => (heldLock_c x.writer g0 g1 x.readers.length x.queue.length (1) w ⟨hW.rdOwn 6 rfl, hW.rdOwn 7 rfl, trivial⟩ ⟨by omega, by omega⟩ (by omega))) ?_
  rintro v L ⟨rfl, rfl⟩
  refine CaseB.mk (fun h => by simp at h; omega) (fun _ => ?_)
  refine stop_call _ cl40 rfl rfl rfl rfl ⟨rfl, rfl⟩ (fun A w hW => (heldIntS_n gr1 (1 + x.readers.length + 2 * x.queue.length) r1.length w ⟨hW.rdOwn 5 rfl, trivial⟩ (by omega) (by omega))) ?_
  rintro v L ⟨rfl, rfl⟩
  refine CaseB.mk (fun h => by simp at h; omega) (fun _ => ?_)
  refine CaseB.mk (fun h => by simp at h) (fun _ => ?_)
  exact retw [] ⟨rfl, rfl⟩ trivial rfl trivial (fun _ => rfl)
end Go.Proofs.Ytpemppacedfifaa

