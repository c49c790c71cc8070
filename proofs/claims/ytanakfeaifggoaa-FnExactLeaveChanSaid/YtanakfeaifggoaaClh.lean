/- FnExactLeaveChan: the walk. -/
import Derived.Test.YtanakfeaifggoaaCle
import Derived.Test.YtanakfeaifggoaaCza
namespace Go.Proofs.Ytanakfeaifggoaa
open Go Go.Sx Go.RowKit

set_option maxHeartbeats 16000000 in
set_option maxRecDepth 100000 in
theorem exactLeave_c (m : Chan) (s0 s1 s2 : Sl) (t : Int) (w : World) (h : At w [slo s0 cInt 1 m.items, slo s1 cLet 2 m.senders, slo s2 cInt 1 m.getters]) :
    Calls Try.prog 13 #[chanV m s0 s1 s2, .int .i64 t] w (Ret w fun v L => v = .bool true ∧ L = []) := by
  refine calls2 Try.func13 rfl tabOk w _ rfl _ rfl _ h ⟨rfl, rfl, rfl, rfl, rfl, rfl, trivial⟩ _ _ (by decide) ?_
  refine stop_call _ cl33 rfl rfl rfl rfl ⟨rfl, rfl⟩ (fun A w hW => (szChan_c m s0 s1 s2 1048576 w ⟨hW.rd 0 rfl, hW.rd 1 rfl, hW.rd 2 rfl, trivial⟩ (by omega) (by omega))) ?_
  rintro v L ⟨rfl, rfl⟩
  refine CaseB.mk (fun _ => ?_) (fun hz => ?_)
  · exact retw [] ⟨rfl, rfl⟩ trivial rfl trivial (fun _ => rfl)
  have hb : m.small20 := szChanM_ok (by simpa using hz)
  have hs : m.small := Chan.small20_small hb
  refine stop_call _ cl34 rfl rfl rfl rfl ⟨rfl, rfl⟩ (fun A w hW => (toChan_c m s0 s1 s2 w ⟨hW.rd 0 rfl, hW.rd 1 rfl, hW.rd 2 rfl, trivial⟩ hb)) ?_
  rintro v L ⟨t0, t1, t2, rfl, rfl⟩
  have hx8 := leave_s8 m t
  generalize hp : m.leave t = p at hx8
  obtain ⟨x, r1⟩ := p
  simp only at hx8
  have hx20 : x.small20 := Chan.small8_20 hx8
  have hx8' := hx8
  obtain ⟨e0, e1, e2⟩ := hx8'
  refine stop_call _ cl32 rfl rfl rfl rfl ⟨rfl, rfl⟩ (fun A w hW => (leaveS_c m t0 t1 t2 t w ⟨hW.rdOwn 0 rfl, hW.rdOwn 1 rfl, hW.rdOwn 2 rfl, trivial⟩ hs)) ?_
  rw [hp]
  rintro v L ⟨w0, w1, w2, rfl, rfl⟩
  refine stop_call _ cl34 rfl rfl rfl rfl ⟨rfl, rfl⟩ (fun A w hW => (toChan_c m s0 s1 s2 w ⟨hW.rd 6 rfl, hW.rd 7 rfl, hW.rd 8 rfl, trivial⟩ hb)) ?_
  rintro v L ⟨x0, x1, x2, rfl, rfl⟩
  refine stop_call _ cl31 rfl rfl rfl rfl ⟨rfl, rfl⟩ (fun A w hW => (leave_c m x0 x1 x2 t w ⟨hW.rdOwn 0 rfl, hW.rdOwn 1 rfl, hW.rdOwn 2 rfl, trivial⟩ hs)) ?_
  rw [hp]
  rintro v L ⟨g0, g1, g2, rfl, rfl⟩
  refine stop_call _ cl35 rfl rfl rfl rfl ⟨rfl, rfl⟩ (fun A w hW => (eqChan_c x x g0 g1 g2 w0 w1 w2 w ⟨hW.rdOwn 0 rfl, hW.rdOwn 1 rfl, hW.rdOwn 2 rfl, hW.rdOwn 6 rfl, hW.rdOwn 7 rfl, hW.rdOwn 8 rfl, trivial⟩ hx20 hx20)) ?_
  rintro v L ⟨rfl, rfl⟩
  refine CaseB.mk (fun h => by simp at h) (fun _ => ?_)
  refine CaseB.mk (fun h => by simp at h) (fun _ => ?_)
  refine draw_start tabOk (by kernel_rfl) (by kernel_rfl) (by kernel_rfl) 200 [((0, 0), .v (.int .i64 m.room)), ((0, 1), .v (s0.val m.items.length)), ((0, 2), .v (s1.val m.senders.length)), ((0, 3), .v (s2.val m.getters.length)), ((0, 4), .v (.bool m.closed)), ((2, 0), .v (.int .i64 m.room)), ((2, 1), .v (x0.val m.items.length)), ((2, 2), .v (x1.val m.senders.length)), ((2, 3), .v (x2.val m.getters.length)), ((2, 4), .v (.bool m.closed))] [] [] ⟨⟨_, rfl, rfl, (by first | exact trivial | exact Nat.le_of_ble_eq_true rfl)⟩, ⟨_, rfl, rfl, (by first | exact trivial | exact Nat.le_of_ble_eq_true rfl)⟩, ⟨_, rfl, rfl, (by first | exact trivial | exact Nat.le_of_ble_eq_true rfl)⟩, ⟨_, rfl, rfl, (by first | exact trivial | exact Nat.le_of_ble_eq_true rfl)⟩, ⟨_, rfl, rfl, (by first | exact trivial | exact Nat.le_of_ble_eq_true rfl)⟩, ⟨_, rfl, rfl, (by first | exact trivial | exact Nat.le_of_ble_eq_true rfl)⟩, ⟨_, rfl, rfl, (by first | exact trivial | exact Nat.le_of_ble_eq_true rfl)⟩, ⟨_, rfl, rfl, (by first | exact trivial | exact Nat.le_of_ble_eq_true rfl)⟩, ⟨_, rfl, rfl, (by first | exact trivial | exact Nat.le_of_ble_eq_true rfl)⟩, ⟨_, rfl, rfl, (by first | exact trivial | exact Nat.le_of_ble_eq_true rfl)⟩, trivial⟩ ⟨⟨_, rfl⟩, ⟨_, rfl⟩, ⟨_, rfl⟩, ⟨_, rfl⟩, ⟨_, rfl⟩, ⟨_, rfl⟩, ⟨_, rfl⟩, ⟨_, rfl⟩, ⟨_, rfl⟩, ⟨_, rfl⟩, trivial⟩ trivial rfl ?_
  refine d_call _ cl34 rfl rfl rfl rfl ⟨rfl, rfl⟩ (fun A w hW => (toChan_c m s0 s1 s2 w ⟨hW.rd 12 rfl, hW.rd 13 rfl, hW.rd 14 rfl, trivial⟩ hb)) ?_
  rintro v L ⟨y0, y1, y2, rfl, rfl⟩
  refine d_call _ cl35 rfl rfl rfl rfl ⟨rfl, rfl⟩ (fun A w hW => (eqChan_c m m x0 x1 x2 y0 y1 y2 w ⟨hW.rdOwn 6 rfl, hW.rdOwn 7 rfl, hW.rdOwn 8 rfl, hW.rdOwn 0 rfl, hW.rdOwn 1 rfl, hW.rdOwn 2 rfl, trivial⟩ hb hb)) ?_
  rintro v L ⟨rfl, rfl⟩
  refine CaseB.mk (fun h => by simp at h) (fun _ => ?_)
  refine stop_callG _ [6, 7, 8] (G := [_, _, _]) cl37 rfl rfl rfl rfl ⟨rfl, rfl⟩ ⟨rfl, rfl, rfl, trivial⟩ ⟨rfl, rfl, rfl, rfl, rfl, rfl, trivial⟩ (fun A w hW => (markChan_c m x0 x1 x2 (1) w (hW.atG [6, 7, 8] (G := [_, _, _]) ⟨rfl, rfl, rfl, trivial⟩ rfl ⟨rfl, rfl, rfl, rfl, rfl, rfl, trivial⟩ [] (Fo := []) trivial rfl) hb (by omega))) ?_
  rintro v L ⟨rfl, rfl⟩
  refine CaseB.mk (fun h => by simp at h; omega) (fun _ => ?_)
  refine stop_call _ cl35 rfl rfl rfl rfl ⟨rfl, rfl⟩ (fun A w hW => (eqChan_c x x g0 g1 g2 w0 w1 w2 w ⟨hW.rdOwn 6 rfl, hW.rdOwn 7 rfl, hW.rdOwn 8 rfl, hW.rdOwn 9 rfl, hW.rdOwn 10 rfl, hW.rdOwn 11 rfl, trivial⟩ hx20 hx20)) ?_
  rintro v L ⟨rfl, rfl⟩
  refine CaseB.mk (fun h => by simp at h) (fun _ => ?_)
  refine CaseB.mk (fun h => by simp at h) (fun _ => ?_)
  refine stop_callG _ [6, 7, 8] (G := [_, _, _]) cl37 rfl rfl rfl rfl ⟨rfl, rfl⟩ ⟨rfl, rfl, rfl, trivial⟩ ⟨rfl, rfl, rfl, rfl, rfl, rfl, trivial⟩ (fun A w hW => (markChan_c x g0 g1 g2 (1) w (hW.atG [6, 7, 8] (G := [_, _, _]) ⟨rfl, rfl, rfl, trivial⟩ rfl ⟨rfl, rfl, rfl, rfl, rfl, rfl, trivial⟩ [] (Fo := []) trivial rfl) hx20 (by omega))) ?_
  rintro v L ⟨rfl, rfl⟩
  refine stop_call _ cl39 rfl rfl rfl rfl ⟨rfl, rfl⟩ (fun A w hW => (heldChan_c x.room x.closed g0 g1 g2 x.items.length x.senders.length x.getters.length (1) w ⟨hW.rdOwn 0 rfl, hW.rdOwn 1 rfl, hW.rdOwn 2 rfl, trivial⟩ ⟨by omega, by omega, by omega⟩ (by omega))) ?_
  rintro v L ⟨rfl, rfl⟩
  refine CaseB.mk (fun h => by simp at h; omega) (fun _ => ?_)
  refine CaseB.mk (fun h => by simp at h) (fun _ => ?_)
  refine stop_call _ cl34 rfl rfl rfl rfl ⟨rfl, rfl⟩ (fun A w hW => (toChan_c m s0 s1 s2 w ⟨hW.rd 15 rfl, hW.rd 16 rfl, hW.rd 17 rfl, trivial⟩ hb)) ?_
  rintro v L ⟨z0, z1, z2, rfl, rfl⟩
  refine stop_call _ cl31 rfl rfl rfl rfl ⟨rfl, rfl⟩ (fun A w hW => (leave_c m z0 z1 z2 t w ⟨hW.rdOwn 0 rfl, hW.rdOwn 1 rfl, hW.rdOwn 2 rfl, trivial⟩ hs)) ?_
  rw [hp]
  rintro v L ⟨h0, h1, h2, rfl, rfl⟩
  refine stop_call _ cl35 rfl rfl rfl rfl ⟨rfl, rfl⟩ (fun A w hW => (eqChan_c x x h0 h1 h2 w0 w1 w2 w ⟨hW.rdOwn 0 rfl, hW.rdOwn 1 rfl, hW.rdOwn 2 rfl, hW.rdOwn 15 rfl, hW.rdOwn 16 rfl, hW.rdOwn 17 rfl, trivial⟩ hx20 hx20)) ?_
  rintro v L ⟨rfl, rfl⟩
  refine CaseB.mk (fun h => by simp at h) (fun _ => ?_)
  refine CaseB.mk (fun h => by simp at h) (fun _ => ?_)
  refine stop_call _ cl39 rfl rfl rfl rfl ⟨rfl, rfl⟩ (fun A w hW => (heldChan_c x.room x.closed g0 g1 g2 x.items.length x.senders.length x.getters.length (1) w ⟨hW.rdOwn 6 rfl, hW.rdOwn 7 rfl, hW.rdOwn 8 rfl, trivial⟩ ⟨by omega, by omega, by omega⟩ (by omega))) ?_
  rintro v L ⟨rfl, rfl⟩
  refine CaseB.mk (fun h => by simp at h; omega) (fun _ => ?_)
  refine CaseB.mk (fun h => by simp at h) (fun _ => ?_)
  exact retw [] ⟨rfl, rfl⟩ trivial rfl trivial (fun _ => rfl)
end Go.Proofs.Ytanakfeaifggoaa

