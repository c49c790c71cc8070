/- FnExactFormatState: texts that its proof stands on, part 4. -/
import Derived.Test.YtchkcjeeknfchaaGreatDoorQExactFormatStatec
namespace Go.Proofs.YtchkcjeeknfchaaGreatDoor

open Go Go.Sx Go.RowKit

set_option maxHeartbeats 16000000 in
set_option maxRecDepth 100000 in
theorem opValid_c (p : ProgH) (o : Op) (w : World) (h : At w [fR (progO p)]) :
    Calls Tryz.prog 84 #[progV p, .agg (cOp o).toArray] w (Tells w (OpOk p.pure o)) := by
  refine calls2 Tryz.func84 rfl tabOk w _ rfl _ rfl _ h ⟨rfl, rfl, trivial⟩ _ _ (by decide) ?_
  refine CaseB.mk (fun k1 => ?_) (fun k1 => ?_)
  · have hx := opOk1 (p := p.pure) (o := o) (by simpa using k1)
    refine CaseB.mk (fun g => ?_) (fun g => ?_)
    · have g' : o.on = 0 := by simpa using g
      refine stop_call _ cl47 rfl rfl rfl rfl ⟨rfl, rfl⟩ (fun A w hW => isValue_c _ w) ?_
      rintro v L ⟨rfl, rfl⟩
      exact retw [] ⟨_, rfl, by rw [hx]; simp [g'], rfl⟩ trivial rfl trivial (fun _ => rfl)
    · have g' : ¬ o.on = 0 := by simpa using g
      exact retw [] ⟨_, rfl, tno fun e => g' (hx.1 e).1, rfl⟩ trivial rfl trivial (fun _ => rfl)
  refine CaseB.mk (fun k2 => ?_) (fun k2 => ?_)
  · refine CaseB.mk (fun _ => ?_) (fun g => by rw [k2] at g; cases g)
    have hx := opOk2 (p := p.pure) (o := o) (.inl (by simpa using k2))
    refine draw_start tabOk (by kernel_rfl) (by kernel_rfl) (by kernel_rfl) 200 [((0, 0), .v (p.h0.val p.sems.length)), ((1, 0), .v (.int .i64 o.kind)), ((1, 1), .v (.int .i64 o.on)), ((1, 2), .v (.int .i64 o.arg))] [0] [_] ⟨⟨_, rfl, rfl, (by first | exact trivial | exact Nat.le_of_ble_eq_true rfl)⟩, ⟨_, rfl, rfl, (by first | exact trivial | exact Nat.le_of_ble_eq_true rfl)⟩, ⟨_, rfl, rfl, (by first | exact trivial | exact Nat.le_of_ble_eq_true rfl)⟩, ⟨_, rfl, rfl, (by first | exact trivial | exact Nat.le_of_ble_eq_true rfl)⟩, trivial⟩ ⟨⟨_, rfl⟩, ⟨_, rfl⟩, ⟨_, rfl⟩, ⟨_, rfl⟩, trivial⟩ ⟨rfl, trivial⟩ rfl ?_
    refine d_call _ cl117 rfl rfl rfl rfl ⟨rfl, rfl⟩ (fun A w hW => opOn_c p.h0 p.sems.length o (A 1) w ⟨hW.var rfl rfl, trivial⟩) ?_
    rintro v L ⟨b, rfl, hb, rfl⟩
    refine CaseB.mk (fun g1 => ?_) (fun g1 => ?_)
    · obtain ⟨c1, c2⟩ := hb.1 g1
      have hlt : o.on.toNat < p.sems.length := by omega
      have e : p.pure.sems.getD o.on.toNat 0 = p.sems[o.on.toNat] := by simp [ProgH.pure, List.getD, hlt]
      refine CaseB.mk (fun g2 => ?_) (fun g2 => ?_)
      · have c3 : 1 ≤ o.arg := by simp at g2; omega
        refine d_idx (ti := tiOf tab) encInt tabOk rfl rfl rfl rfl rfl ⟨rfl, rfl⟩ (rdVia 0 rfl (.ofR (progO_sems p))) o.on.toNat (by omega) (by first | omega | (simp; done) | (simp; omega) | (unfold maxLen; omega) | (unfold maxLen; simp; done) | (unfold maxLen; simp; omega)) (fun ad => ?_)
        refine retw [] ⟨_, rfl, ?_, rfl⟩ trivial rfl trivial (fun _ => rfl)
        rw [hx, e]
        show _ ↔ (0 ≤ o.on ∧ o.on < (p.sems.length : Int)) ∧ _
        simp [c1, c2, c3]
      · have c3 : ¬ 1 ≤ o.arg := by simp at g2; omega
        exact retw [] ⟨_, rfl, tno fun e => c3 (hx.1 e).2.1, rfl⟩ trivial rfl trivial (fun _ => rfl)
    · exact retw [] ⟨_, rfl, tno fun e => (by rw [hb.2 (hx.1 e).1] at g1; cases g1), rfl⟩ trivial rfl trivial (fun _ => rfl)
  refine CaseB.mk (fun k3 => ?_) (fun k3 => ?_)
  · skip
    have hx := opOk2 (p := p.pure) (o := o) (.inr (by simpa using k3))
    refine draw_start tabOk (by kernel_rfl) (by kernel_rfl) (by kernel_rfl) 200 [((0, 0), .v (p.h0.val p.sems.length)), ((1, 0), .v (.int .i64 o.kind)), ((1, 1), .v (.int .i64 o.on)), ((1, 2), .v (.int .i64 o.arg))] [0] [_] ⟨⟨_, rfl, rfl, (by first | exact trivial | exact Nat.le_of_ble_eq_true rfl)⟩, ⟨_, rfl, rfl, (by first | exact trivial | exact Nat.le_of_ble_eq_true rfl)⟩, ⟨_, rfl, rfl, (by first | exact trivial | exact Nat.le_of_ble_eq_true rfl)⟩, ⟨_, rfl, rfl, (by first | exact trivial | exact Nat.le_of_ble_eq_true rfl)⟩, trivial⟩ ⟨⟨_, rfl⟩, ⟨_, rfl⟩, ⟨_, rfl⟩, ⟨_, rfl⟩, trivial⟩ ⟨rfl, trivial⟩ rfl ?_
    refine d_call _ cl117 rfl rfl rfl rfl ⟨rfl, rfl⟩ (fun A w hW => opOn_c p.h0 p.sems.length o (A 1) w ⟨hW.var rfl rfl, trivial⟩) ?_
    rintro v L ⟨b, rfl, hb, rfl⟩
    refine CaseB.mk (fun g1 => ?_) (fun g1 => ?_)
    · obtain ⟨c1, c2⟩ := hb.1 g1
      have hlt : o.on.toNat < p.sems.length := by omega
      have e : p.pure.sems.getD o.on.toNat 0 = p.sems[o.on.toNat] := by simp [ProgH.pure, List.getD, hlt]
      refine CaseB.mk (fun g2 => ?_) (fun g2 => ?_)
      · have c3 : 1 ≤ o.arg := by simp at g2; omega
        refine d_idx (ti := tiOf tab) encInt tabOk rfl rfl rfl rfl rfl ⟨rfl, rfl⟩ (rdVia 0 rfl (.ofR (progO_sems p))) o.on.toNat (by omega) (by first | omega | (simp; done) | (simp; omega) | (unfold maxLen; omega) | (unfold maxLen; simp; done) | (unfold maxLen; simp; omega)) (fun ad => ?_)
        refine retw [] ⟨_, rfl, ?_, rfl⟩ trivial rfl trivial (fun _ => rfl)
        rw [hx, e]
        show _ ↔ (0 ≤ o.on ∧ o.on < (p.sems.length : Int)) ∧ _
        simp [c1, c2, c3]
      · have c3 : ¬ 1 ≤ o.arg := by simp at g2; omega
        exact retw [] ⟨_, rfl, tno fun e => c3 (hx.1 e).2.1, rfl⟩ trivial rfl trivial (fun _ => rfl)
    · exact retw [] ⟨_, rfl, tno fun e => (by rw [hb.2 (hx.1 e).1] at g1; cases g1), rfl⟩ trivial rfl trivial (fun _ => rfl)
  refine CaseB.mk (fun k4 => ?_) (fun k4 => ?_)
  · have hx := opOk4 (p := p.pure) (o := o) (by simpa using k4)
    refine CaseB.mk (fun g => ?_) (fun g => ?_)
    · have g1 : 0 ≤ o.on := by simp at g; omega
      refine CaseB.mk (fun g => ?_) (fun g => ?_)
      · have g2 : o.on ≤ 2 := by simp at g; omega
        refine stop_call _ cl47 rfl rfl rfl rfl ⟨rfl, rfl⟩ (fun A w hW => isValue_c _ w) ?_
        rintro v L ⟨rfl, rfl⟩
        exact retw [] ⟨_, rfl, by rw [hx]; simp [g1, g2], rfl⟩ trivial rfl trivial (fun _ => rfl)
      · have g2 : ¬ o.on ≤ 2 := by simp at g; omega
        exact retw [] ⟨_, rfl, tno fun e => g2 (hx.1 e).2.1, rfl⟩ trivial rfl trivial (fun _ => rfl)
    · have g1 : ¬ 0 ≤ o.on := by simp at g; omega
      exact retw [] ⟨_, rfl, tno fun e => g1 (hx.1 e).1, rfl⟩ trivial rfl trivial (fun _ => rfl)
  refine CaseB.mk (fun k5 => ?_) (fun k5 => ?_)
  · skip
    have hx := opOk5 (p := p.pure) (o := o) (by simpa using k5)
    refine stop_call _ cl117 rfl rfl rfl rfl ⟨rfl, rfl⟩ (fun A w hW => opOn_c p.h1 p.groups.length o (A 1) w ⟨hW.var rfl rfl, trivial⟩) ?_
    rintro v L ⟨b, rfl, hb, rfl⟩
    refine CaseB.mk (fun g1 => ?_) (fun g1 => ?_)
    rotate_left
    · exact retw [] ⟨_, rfl, tno fun e => (by rw [hb.2 (hx.1 e).1] at g1; cases g1), rfl⟩ trivial rfl trivial (fun _ => rfl)
    have c := hb.1 g1
    have c' : 0 ≤ o.on ∧ o.on < (p.pure.groups.length : Int) := c
    refine CaseB.mk (fun g2 => ?_) (fun g2 => ?_)
    · have c3 : -9 ≤ o.arg := by simp at g2; omega
      exact retw [] ⟨_, rfl, by rw [hx]; simp only [c', c3, true_and, and_self]; simp, rfl⟩ trivial rfl trivial (fun _ => rfl)
    · have c3 : ¬ -9 ≤ o.arg := by simp at g2; omega
      exact retw [] ⟨_, rfl, tno fun e => c3 (hx.1 e).2.1, rfl⟩ trivial rfl trivial (fun _ => rfl)
  refine CaseB.mk (fun k6 => ?_) (fun k6 => ?_)
  · skip
    have hx := opOk6 (p := p.pure) (o := o) (by simpa using k6)
    refine stop_call _ cl117 rfl rfl rfl rfl ⟨rfl, rfl⟩ (fun A w hW => opOn_c p.h1 p.groups.length o (A 1) w ⟨hW.var rfl rfl, trivial⟩) ?_
    rintro v L ⟨b, rfl, hb, rfl⟩
    refine CaseB.mk (fun g1 => ?_) (fun g1 => ?_)
    rotate_left
    · exact retw [] ⟨_, rfl, tno fun e => (by rw [hb.2 (hx.1 e).1] at g1; cases g1), rfl⟩ trivial rfl trivial (fun _ => rfl)
    have c := hb.1 g1
    have c' : 0 ≤ o.on ∧ o.on < (p.pure.groups.length : Int) := c
    exact retw [] ⟨_, rfl, by rw [hx]; simp only [c', true_and, and_self]; simp, rfl⟩ trivial rfl trivial (fun _ => rfl)
  refine CaseB.mk (fun k7 => ?_) (fun k7 => ?_)
  · skip
    have hx := opOk7 (p := p.pure) (o := o) (by simpa using k7)
    refine stop_call _ cl117 rfl rfl rfl rfl ⟨rfl, rfl⟩ (fun A w hW => opOn_c p.h2 p.barriers.length o (A 1) w ⟨hW.var rfl rfl, trivial⟩) ?_
    rintro v L ⟨b, rfl, hb, rfl⟩
    refine CaseB.mk (fun g1 => ?_) (fun g1 => ?_)
    rotate_left
    · exact retw [] ⟨_, rfl, tno fun e => (by rw [hb.2 (hx.1 e).1] at g1; cases g1), rfl⟩ trivial rfl trivial (fun _ => rfl)
    have c := hb.1 g1
    have c' : 0 ≤ o.on ∧ o.on < (p.pure.barriers.length : Int) := c
    exact retw [] ⟨_, rfl, by rw [hx]; simp only [c', true_and, and_self]; simp, rfl⟩ trivial rfl trivial (fun _ => rfl)
  refine CaseB.mk (fun k8 => ?_) (fun k8 => ?_)
  · skip
    have hx := opOk8 (p := p.pure) (o := o) (by simpa using k8)
    refine stop_call _ cl117 rfl rfl rfl rfl ⟨rfl, rfl⟩ (fun A w hW => opOn_c p.h3 p.rooms.length o (A 1) w ⟨hW.var rfl rfl, trivial⟩) ?_
    rintro v L ⟨b, rfl, hb, rfl⟩
    refine CaseB.mk (fun g1 => ?_) (fun g1 => ?_)
    rotate_left
    · exact retw [] ⟨_, rfl, tno fun e => (by rw [hb.2 (hx.1 e).1] at g1; cases g1), rfl⟩ trivial rfl trivial (fun _ => rfl)
    have c := hb.1 g1
    have c' : 0 ≤ o.on ∧ o.on < (p.pure.rooms.length : Int) := c
    refine stop_call _ cl47 rfl rfl rfl rfl ⟨rfl, rfl⟩ (fun A w hW => isValue_c _ w) ?_
    rintro v L ⟨rfl, rfl⟩
    exact retw [] ⟨_, rfl, by rw [hx]; simp only [c', true_and, and_self], rfl⟩ trivial rfl trivial (fun _ => rfl)
  refine CaseB.mk (fun k9 => ?_) (fun k9 => ?_)
  · refine CaseB.mk (fun _ => ?_) (fun g => by rw [k9] at g; cases g)
    have hx := opOk9 (p := p.pure) (o := o) (.inl (by simpa using k9))
    refine stop_call _ cl117 rfl rfl rfl rfl ⟨rfl, rfl⟩ (fun A w hW => opOn_c p.h3 p.rooms.length o (A 1) w ⟨hW.var rfl rfl, trivial⟩) ?_
    rintro v L ⟨b, rfl, hb, rfl⟩
    refine CaseB.mk (fun g1 => ?_) (fun g1 => ?_)
    rotate_left
    · exact retw [] ⟨_, rfl, tno fun e => (by rw [hb.2 (hx.1 e).1] at g1; cases g1), rfl⟩ trivial rfl trivial (fun _ => rfl)
    have c := hb.1 g1
    have c' : 0 ≤ o.on ∧ o.on < (p.pure.rooms.length : Int) := c
    exact retw [] ⟨_, rfl, by rw [hx]; simp only [c', true_and, and_self]; simp, rfl⟩ trivial rfl trivial (fun _ => rfl)
  refine CaseB.mk (fun k10 => ?_) (fun k10 => ?_)
  · skip
    have hx := opOk9 (p := p.pure) (o := o) (.inr (by simpa using k10))
    refine stop_call _ cl117 rfl rfl rfl rfl ⟨rfl, rfl⟩ (fun A w hW => opOn_c p.h3 p.rooms.length o (A 1) w ⟨hW.var rfl rfl, trivial⟩) ?_
    rintro v L ⟨b, rfl, hb, rfl⟩
    refine CaseB.mk (fun g1 => ?_) (fun g1 => ?_)
    rotate_left
    · exact retw [] ⟨_, rfl, tno fun e => (by rw [hb.2 (hx.1 e).1] at g1; cases g1), rfl⟩ trivial rfl trivial (fun _ => rfl)
    have c := hb.1 g1
    have c' : 0 ≤ o.on ∧ o.on < (p.pure.rooms.length : Int) := c
    exact retw [] ⟨_, rfl, by rw [hx]; simp only [c', true_and, and_self]; simp, rfl⟩ trivial rfl trivial (fun _ => rfl)
  have hno : ¬ OpOk p.pure o := opOk0 (by simp at k1 k2 k3 k4 k5 k6 k7 k8 k9 k10; omega)
  exact retw [] ⟨_, rfl, tno hno, rfl⟩ trivial rfl trivial (fun _ => rfl)

end Go.Proofs.YtchkcjeeknfchaaGreatDoor

namespace Go.Proofs.YtchkcjeeknfchaaGreatDoor

open Go Go.Sx Go.RowKit

set_option maxHeartbeats 16000000 in
set_option maxRecDepth 100000 in
theorem progValid_c (p : ProgH) (w : World) (h : At w [fR (progO p)]) (hs : p.sems.length ≤ 1048576 ∧ p.groups.length ≤ 1048576 ∧ p.barriers.length ≤ 1048576 ∧ p.rooms.length ≤ 1048576) :
    Calls Tryz.prog 41 #[progV p] w (Tells w (ProgOk p.pure)) := by
  refine calls1 Tryz.func41 rfl tabOk w _ rfl _ rfl _ h ⟨rfl, rfl, trivial⟩ _ (by decide) ?_
  refine stop_call _ cl83 rfl rfl rfl rfl ⟨rfl, rfl⟩ (fun A w hW => within_c p.h0 p.sems 1 9 w ⟨hW.get 0 rfl (.ofR (progO_sems p)), trivial⟩ (by omega)) ?_
  rintro v L ⟨b0, rfl, hb0, rfl⟩
  refine CaseB.mk (fun g => ?_) (fun g => ?_)
  · exact retw [] ⟨_, rfl, tno fun e => (by have := hb0.2 e.sems; rw [this] at g; cases g), rfl⟩ trivial rfl trivial (fun _ => rfl)
  have w0 := hb0.1 (by simpa using g)
  refine stop_call _ cl83 rfl rfl rfl rfl ⟨rfl, rfl⟩ (fun A w hW => within_c p.h1 p.groups 0 9 w ⟨hW.get 0 rfl (.ofR (progO_groups p)), trivial⟩ (by omega)) ?_
  rintro v L ⟨b1, rfl, hb1, rfl⟩
  refine CaseB.mk (fun g => ?_) (fun g => ?_)
  · exact retw [] ⟨_, rfl, tno fun e => (by have := hb1.2 e.groups; rw [this] at g; cases g), rfl⟩ trivial rfl trivial (fun _ => rfl)
  have w1 := hb1.1 (by simpa using g)
  refine stop_call _ cl83 rfl rfl rfl rfl ⟨rfl, rfl⟩ (fun A w hW => within_c p.h2 p.barriers 1 6 w ⟨hW.get 0 rfl (.ofR (progO_barriers p)), trivial⟩ (by omega)) ?_
  rintro v L ⟨b2, rfl, hb2, rfl⟩
  refine CaseB.mk (fun g => ?_) (fun g => ?_)
  · exact retw [] ⟨_, rfl, tno fun e => (by have := hb2.2 e.barriers; rw [this] at g; cases g), rfl⟩ trivial rfl trivial (fun _ => rfl)
  have w2 := hb2.1 (by simpa using g)
  refine stop_call _ cl83 rfl rfl rfl rfl ⟨rfl, rfl⟩ (fun A w hW => within_c p.h3 p.rooms 0 4 w ⟨hW.get 0 rfl (.ofR (progO_rooms p)), trivial⟩ (by omega)) ?_
  rintro v L ⟨b3, rfl, hb3, rfl⟩
  refine CaseB.mk (fun g => ?_) (fun g => ?_)
  · exact retw [] ⟨_, rfl, tno fun e => (by have := hb3.2 e.rooms; rw [this] at g; cases g), rfl⟩ trivial rfl trivial (fun _ => rfl)
  have w3 := hb3.1 (by simpa using g)
  have hlen : p.pure.threads.length = p.threads.length := by simp [ProgH.pure]
  refine CaseB.mk (fun g => ?_) (fun g => ?_)
  · have q : ¬ 1 ≤ p.threads.length := by have g' := of_decide_eq_true g; omega
    exact retw [] ⟨_, rfl, tno fun e => q (hlen ▸ e.n1), rfl⟩ trivial rfl trivial (fun _ => rfl)
  have n1 : 1 ≤ p.threads.length := by have g' := of_decide_eq_false g; omega
  refine CaseB.mk (fun g => ?_) (fun g => ?_)
  · have q : ¬ p.threads.length ≤ 4 := by simp at g; omega
    exact retw [] ⟨_, rfl, tno fun e => q (hlen ▸ e.n4), rfl⟩ trivial rfl trivial (fun _ => rfl)
  have n4 : p.threads.length ≤ 4 := by simp at g; omega
  have hmem : ∀ (k : Nat) (hk : k < p.threads.length), (p.threads[k]).m ∈ p.pure.threads := fun k hk => List.mem_map_of_mem (List.getElem_mem hk)
  refine LoopW.mk ⟨{ k : Nat // k ≤ p.threads.length ∧ ∀ t ∈ p.pure.threads.take k, t.length ≤ 8 ∧ ∀ o ∈ t, OpOk p.pure o },
    fun k => .mk [(1, .p 0 0), (42, .v (p.h4.val p.threads.length)), (43, .v (.int .i64 (p.threads.length : Int))), (44, .v (.int .i64 (k.1 : Int)))] 1 0 [(0, 38, 5)] [((0, 0), .v (p.h0.val p.sems.length)), ((0, 1), .v (p.h1.val p.groups.length)), ((0, 2), .v (p.h2.val p.barriers.length)), ((0, 3), .v (p.h3.val p.rooms.length)), ((0, 4), .v (p.h4.val p.threads.length))] [fR (progO p)],
    fun k => p.threads.length - k.1, ⟨0, Nat.zero_le _, by simp⟩, ?_, ?_⟩
  · refine weak_mk [0] ?_ ?_ ?_ ?_ ?_ rfl rfl
    · repeat (first | exact trivial | refine ⟨⟨_, rfl, (by first | exact .of rfl | exact .lit rfl | exact .of (by first | (rfl)) | exact .lit (by first | (rfl))), (by first | exact trivial | exact Nat.le_of_ble_eq_true rfl | exact small1 rfl)⟩, ?_⟩)
    · repeat (first | exact trivial | refine ⟨⟨(by first | exact .head _ | exact .tail _ (.head _) | exact .tail _ (.tail _ (.head _)) | exact .tail _ (.tail _ (.tail _ (.head _))) | exact .tail _ (.tail _ (.tail _ (.tail _ (.head _)))) | exact .tail _ (.tail _ (.tail _ (.tail _ (.tail _ (.head _))))) | exact .tail _ (.tail _ (.tail _ (.tail _ (.tail _ (.tail _ (.head _)))))) | exact .tail _ (.tail _ (.tail _ (.tail _ (.tail _ (.tail _ (.tail _ (.head _))))))) | exact .tail _ (.tail _ (.tail _ (.tail _ (.tail _ (.tail _ (.tail _ (.tail _ (.head _)))))))) | exact .tail _ (.tail _ (.tail _ (.tail _ (.tail _ (.tail _ (.tail _ (.tail _ (.tail _ (.head _)))))))))), Nat.le_of_ble_eq_true rfl⟩, ?_⟩)
    · repeat (first | exact trivial | refine ⟨⟨_, rfl, (by first | exact .of rfl | exact .lit rfl | exact .of (by first | (rfl)) | exact .lit (by first | (rfl))), (by first | exact trivial | exact Nat.le_of_ble_eq_true rfl | exact small1 rfl)⟩, ?_⟩)
    · repeat (first | exact trivial | refine ⟨⟨_, rfl⟩, ?_⟩)
    · repeat (first | exact trivial | refine ⟨.inl ⟨_, rfl, (by first | rfl | (rfl))⟩, ?_⟩ | refine ⟨.inr ⟨Nat.le_of_ble_eq_true rfl, rfl, rfl, rfl, rfl⟩, ?_⟩)
  rintro ⟨k, hk, hinv⟩
  refine CaseB.mk (fun g => ?_) (fun g => ?_)
  · have hlt : k < p.threads.length := by simpa using g
    have hget : p.pure.threads[k]'(by rw [hlen]; exact hlt) = (p.threads[k]).m := by simp [ProgH.pure]
    refine stop_idx encOpSH tabOk rfl rfl rfl rfl rfl ⟨rfl, rfl⟩ (rdVia 0 rfl (.trans (.R_R (progO_threads p)) (.ofR nest_h))) k rfl (by first | omega | (simp; done) | (simp; omega) | (unfold maxLen; omega) | (unfold maxLen; simp; done) | (unfold maxLen; simp; omega)) (fun ad => ?_)
    refine CaseB.mk (fun g => ?_) (fun g => ?_)
    · have q : ¬ (p.threads[k]).m.length ≤ 8 := by simp at g; omega
      exact retw [] ⟨_, rfl, tno fun e => q (e.ops _ (hmem k hlt)).1, rfl⟩ trivial rfl trivial (fun _ => rfl)
    have n8 : (p.threads[k]).m.length ≤ 8 := by simp at g; omega
    refine LoopW.mk ⟨{ j : Nat // j ≤ (p.threads[k]).m.length ∧ ∀ o ∈ (p.threads[k]).m.take j, OpOk p.pure o },
      fun j => .mk [(1, .p 0 0), (42, .v (p.h4.val p.threads.length)), (43, .v (.int .i64 (p.threads.length : Int))), (44, .v (.int .i64 (k : Int))), (51, .v ((p.threads[k]).q.val (p.threads[k]).m.length)), (52, .v (.int .i64 ((p.threads[k]).m.length : Int))), (53, .v (.int .i64 (j.1 : Int)))] 1 0 [(0, 38, 5)] [((0, 0), .v (p.h0.val p.sems.length)), ((0, 1), .v (p.h1.val p.groups.length)), ((0, 2), .v (p.h2.val p.barriers.length)), ((0, 3), .v (p.h3.val p.rooms.length)), ((0, 4), .v (p.h4.val p.threads.length))] [fR (progO p)],
      fun j => (p.threads[k]).m.length - j.1, ⟨0, Nat.zero_le _, by simp⟩, ?_, ?_⟩
    · refine weak_mk [0] ?_ ?_ ?_ ?_ ?_ rfl rfl
      · repeat (first | exact trivial | refine ⟨⟨_, rfl, (by first | exact .of rfl | exact .lit rfl | exact .of (by first | (rfl)) | exact .lit (by first | (rfl))), (by first | exact trivial | exact Nat.le_of_ble_eq_true rfl | exact small1 rfl)⟩, ?_⟩)
      · repeat (first | exact trivial | refine ⟨⟨(by first | exact .head _ | exact .tail _ (.head _) | exact .tail _ (.tail _ (.head _)) | exact .tail _ (.tail _ (.tail _ (.head _))) | exact .tail _ (.tail _ (.tail _ (.tail _ (.head _)))) | exact .tail _ (.tail _ (.tail _ (.tail _ (.tail _ (.head _))))) | exact .tail _ (.tail _ (.tail _ (.tail _ (.tail _ (.tail _ (.head _)))))) | exact .tail _ (.tail _ (.tail _ (.tail _ (.tail _ (.tail _ (.tail _ (.head _))))))) | exact .tail _ (.tail _ (.tail _ (.tail _ (.tail _ (.tail _ (.tail _ (.tail _ (.head _)))))))) | exact .tail _ (.tail _ (.tail _ (.tail _ (.tail _ (.tail _ (.tail _ (.tail _ (.tail _ (.head _)))))))))), Nat.le_of_ble_eq_true rfl⟩, ?_⟩)
      · repeat (first | exact trivial | refine ⟨⟨_, rfl, (by first | exact .of rfl | exact .lit rfl | exact .of (by first | (rfl)) | exact .lit (by first | (rfl))), (by first | exact trivial | exact Nat.le_of_ble_eq_true rfl | exact small1 rfl)⟩, ?_⟩)
      · repeat (first | exact trivial | refine ⟨⟨_, rfl⟩, ?_⟩)
      · repeat (first | exact trivial | refine ⟨.inl ⟨_, rfl, (by first | rfl | (rfl))⟩, ?_⟩ | refine ⟨.inr ⟨Nat.le_of_ble_eq_true rfl, rfl, rfl, rfl, rfl⟩, ?_⟩)
    rintro ⟨j, hj, hinv2⟩
    refine CaseB.mk (fun g => ?_) (fun g => ?_)
    · have hlj : j < (p.threads[k]).m.length := by simpa using g
      refine stop_idx encOp tabOk rfl rfl rfl rfl rfl ⟨rfl, rfl⟩ (rdVia 0 rfl (.trans (.R_R (progO_threads p)) (.ofR (threadsO_0 _ _ k hlt)))) j rfl (by first | omega | (simp; done) | (simp; omega) | (unfold maxLen; omega) | (unfold maxLen; simp; done) | (unfold maxLen; simp; omega)) (fun ad2 => ?_)
      refine stop_call _ cl84 rfl rfl rfl rfl ⟨rfl, rfl⟩ (fun A w hW => opValid_c p _ w ⟨hW.get 0 rfl (.refl _), trivial⟩) ?_
      rintro v L ⟨b, rfl, hb, rfl⟩
      refine CaseB.mk (fun g => ?_) (fun g => ?_)
      · exact retw [] ⟨_, rfl, tno fun e => (by have := hb.2 ((e.ops _ (hmem k hlt)).2 _ (List.getElem_mem hlj)); rw [this] at g; cases g), rfl⟩ trivial rfl trivial (fun _ => rfl)
      have hw := e_succ j _ hlj (by omega)
      refine ⟨⟨j + 1, by omega, fun o ho => ?_⟩, ?_, by simp; omega⟩
      · rw [List.take_succ_eq_append_getElem hlj] at ho
        rcases List.mem_append.1 ho with ho | ho
        · exact hinv2 o ho
        · simp at ho; subst ho; exact hb.1 (by simpa using g)
      · refine weak_mk [0] ?_ ?_ ?_ ?_ ?_ rfl rfl
        · repeat (first | exact trivial | refine ⟨⟨_, rfl, (by first | exact .of rfl | exact .lit rfl | exact .of (by first | ((exact congrArg (fun z => SV.v (Value.int .i64 z)) hw))) | exact .lit (by first | ((exact congrArg (fun z => SV.v (Value.int .i64 z)) hw)))), (by first | exact trivial | exact Nat.le_of_ble_eq_true rfl | exact small1 rfl)⟩, ?_⟩)
        · repeat (first | exact trivial | refine ⟨⟨(by first | exact .head _ | exact .tail _ (.head _) | exact .tail _ (.tail _ (.head _)) | exact .tail _ (.tail _ (.tail _ (.head _))) | exact .tail _ (.tail _ (.tail _ (.tail _ (.head _)))) | exact .tail _ (.tail _ (.tail _ (.tail _ (.tail _ (.head _))))) | exact .tail _ (.tail _ (.tail _ (.tail _ (.tail _ (.tail _ (.head _)))))) | exact .tail _ (.tail _ (.tail _ (.tail _ (.tail _ (.tail _ (.tail _ (.head _))))))) | exact .tail _ (.tail _ (.tail _ (.tail _ (.tail _ (.tail _ (.tail _ (.tail _ (.head _)))))))) | exact .tail _ (.tail _ (.tail _ (.tail _ (.tail _ (.tail _ (.tail _ (.tail _ (.tail _ (.head _)))))))))), Nat.le_of_ble_eq_true rfl⟩, ?_⟩)
        · repeat (first | exact trivial | refine ⟨⟨_, rfl, (by first | exact .of rfl | exact .lit rfl | exact .of (by first | ((exact congrArg (fun z => SV.v (Value.int .i64 z)) hw))) | exact .lit (by first | ((exact congrArg (fun z => SV.v (Value.int .i64 z)) hw)))), (by first | exact trivial | exact Nat.le_of_ble_eq_true rfl | exact small1 rfl)⟩, ?_⟩)
        · repeat (first | exact trivial | refine ⟨⟨_, rfl⟩, ?_⟩)
        · repeat (first | exact trivial | refine ⟨.inl ⟨_, rfl, (by first | rfl | ((exact congrArg (fun z => SV.v (Value.int .i64 z)) hw)))⟩, ?_⟩ | refine ⟨.inr ⟨Nat.le_of_ble_eq_true rfl, rfl, rfl, rfl, rfl⟩, ?_⟩)
    have hge2 : (p.threads[k]).m.length ≤ j := by simpa using g
    have hw := e_succ k _ hlt (by omega)
    refine ⟨⟨k + 1, by omega, fun t ht => ?_⟩, ?_, by simp; omega⟩
    · rw [List.take_succ_eq_append_getElem (by rw [hlen]; exact hlt)] at ht
      rcases List.mem_append.1 ht with ht | ht
      · exact hinv t ht
      · simp only [List.mem_singleton] at ht
        rw [hget] at ht
        subst ht
        exact ⟨n8, by rw [List.take_of_length_le hge2] at hinv2; exact hinv2⟩
    · refine weak_mk [0] ?_ ?_ ?_ ?_ ?_ rfl rfl
      · repeat (first | exact trivial | refine ⟨⟨_, rfl, (by first | exact .of rfl | exact .lit rfl | exact .of (by first | ((exact congrArg (fun z => SV.v (Value.int .i64 z)) hw))) | exact .lit (by first | ((exact congrArg (fun z => SV.v (Value.int .i64 z)) hw)))), (by first | exact trivial | exact Nat.le_of_ble_eq_true rfl | exact small1 rfl)⟩, ?_⟩)
      · repeat (first | exact trivial | refine ⟨⟨(by first | exact .head _ | exact .tail _ (.head _) | exact .tail _ (.tail _ (.head _)) | exact .tail _ (.tail _ (.tail _ (.head _))) | exact .tail _ (.tail _ (.tail _ (.tail _ (.head _)))) | exact .tail _ (.tail _ (.tail _ (.tail _ (.tail _ (.head _))))) | exact .tail _ (.tail _ (.tail _ (.tail _ (.tail _ (.tail _ (.head _)))))) | exact .tail _ (.tail _ (.tail _ (.tail _ (.tail _ (.tail _ (.tail _ (.head _))))))) | exact .tail _ (.tail _ (.tail _ (.tail _ (.tail _ (.tail _ (.tail _ (.tail _ (.head _)))))))) | exact .tail _ (.tail _ (.tail _ (.tail _ (.tail _ (.tail _ (.tail _ (.tail _ (.tail _ (.head _)))))))))), Nat.le_of_ble_eq_true rfl⟩, ?_⟩)
      · repeat (first | exact trivial | refine ⟨⟨_, rfl, (by first | exact .of rfl | exact .lit rfl | exact .of (by first | ((exact congrArg (fun z => SV.v (Value.int .i64 z)) hw))) | exact .lit (by first | ((exact congrArg (fun z => SV.v (Value.int .i64 z)) hw)))), (by first | exact trivial | exact Nat.le_of_ble_eq_true rfl | exact small1 rfl)⟩, ?_⟩)
      · repeat (first | exact trivial | refine ⟨⟨_, rfl⟩, ?_⟩)
      · repeat (first | exact trivial | refine ⟨.inl ⟨_, rfl, (by first | rfl | ((exact congrArg (fun z => SV.v (Value.int .i64 z)) hw)))⟩, ?_⟩ | refine ⟨.inr ⟨Nat.le_of_ble_eq_true rfl, rfl, rfl, rfl, rfl⟩, ?_⟩)
  have hge : p.threads.length ≤ k := by simpa using g
  refine retw [] ⟨_, rfl, tyes ⟨w0, w1, w2, w3, by rw [hlen]; exact n1, by rw [hlen]; exact n4, fun t ht => ?_⟩, rfl⟩ trivial rfl trivial (fun _ => rfl)
  rw [List.take_of_length_le (by rw [hlen]; exact hge)] at hinv
  exact hinv t ht

end Go.Proofs.YtchkcjeeknfchaaGreatDoor

namespace Go.Proofs.YtchkcjeeknfchaaGreatDoor

open Go Go.Sx Go.RowKit

def rest (ops : List Op) : Int := if ops.length = 0 then 3 else 0

def start (p : Prog) : State := ⟨p.threads.map fun _ => 0, p.threads.map rest, p.sems.map fun n => ⟨n, n, []⟩, [⟨0, 0, 0, []⟩, ⟨0, 0, 0, []⟩, ⟨0, 0, 0, []⟩], p.groups.map fun n => ⟨n, []⟩, p.barriers.map fun n => ⟨n, 0, []⟩, p.rooms.map fun n => ⟨n, [], [], [], false⟩, [], 0⟩

def State.zero : State := ⟨[], [], [], [], [], [], [], [], 0⟩

def StateH.zero : StateH := ⟨[], [], [], [], [], [], [], [], 0, ⟨none, 0⟩, ⟨none, 0⟩, ⟨none, 0⟩, ⟨none, 0⟩, ⟨none, 0⟩, ⟨none, 0⟩, ⟨none, 0⟩, ⟨none, 0⟩⟩

/-- What StartProg returns. -/
def Started (p : Prog) (v : Value) (L : List Fct) : Prop := ∃ (y : StateH) (b : Bool), v = .tuple #[stateV y, .bool b] ∧ (b = true ↔ ProgOk p) ∧ (b = true → y.pure = start p) ∧ (b = false → y.pure = State.zero) ∧ L = [fO (stateO y)]

end Go.Proofs.YtchkcjeeknfchaaGreatDoor

namespace Go.Proofs.YtchkcjeeknfchaaGreatDoor

open Go Go.Sx Go.RowKit

set_option maxRecDepth 100000 in
theorem szWaiterS_c (i : Sl) (xs : List Waiter) (left : Int) (w : World) (h : At w [slo i cWaiter 2 xs]) (h0 : -1 ≤ left) (h1 : left ≤ 1048576) :
    Calls Tryz.prog 100 #[i.val xs.length, .int .i64 left] w (Ret w fun v L => v = .int .i64 (szN xs.length left) ∧ L = []) := by
  obtain ⟨⟨⟨_, b1, b2, _⟩, _⟩, _⟩ := h
  unfold maxLen at b2
  have e : IntKind.i64.wrap (left - (xs.length : Int)) = left - xs.length := e_wrap (by omega) (by omega)
  refine calls2 Tryz.func100 rfl tabOk w _ rfl _ rfl [] trivial trivial _ _ (by decide) ?_
  refine CaseB.mk (fun h => ?_) (fun h => ?_)
  · rw [e] at h
    have h2 : left - (xs.length : Int) < 0 := by simpa using h
    exact retw [] ⟨by rw [szN, if_pos h2], rfl⟩ trivial rfl trivial (fun _ => rfl)
  · rw [e] at h
    have h2 : ¬ left - (xs.length : Int) < 0 := by simpa using h
    refine retw [] ⟨by rw [szN, if_neg h2], rfl⟩ trivial rfl trivial (fun _ => ?_)
    simp only [resV, SV.den, e]

set_option maxRecDepth 100000 in
theorem toWaiter_c (x : Waiter) (w : World) : Calls Tryz.prog 126 #[.agg (cWaiter x).toArray] w (Ret w fun v L => v = .agg (cWaiter x).toArray ∧ L = []) := by
  refine calls1 Tryz.func126 rfl tabOk w _ rfl _ rfl [] trivial trivial _ (by decide) ?_
  exact retw [] ⟨rfl, rfl⟩ trivial rfl trivial (fun _ => rfl)

set_option maxRecDepth 100000 in
theorem toWaiterS_c (i : Sl) (xs : List Waiter) (w : World) (h : At w [slo i cWaiter 2 xs]) (hb : xs.length ≤ 1048576) :
    Calls Tryz.prog 103 #[i.val xs.length] w (Ret w fun v L => ∃ y : Sl, v = y.val xs.length ∧ L = [own y 161 cWaiter 2 xs]) := by
  refine calls1 Tryz.func103 rfl tabOk w _ rfl _ rfl _ h ⟨rfl, rfl, trivial⟩ _ (by decide) ?_
  refine stop_make encWaiter Waiter0 tabOk rfl rfl rfl rfl rfl (by decide) ⟨rfl, rfl⟩ xs.length rfl (by first | omega | (simp; done) | (simp; omega) | (unfold maxLen; omega) | (unfold maxLen; simp; done) | (unfold maxLen; simp; omega)) (by first | omega | (simp; done) | (simp; omega) | (unfold maxLen; omega) | (unfold maxLen; simp; done) | (unfold maxLen; simp; omega)) (fun y => ?_)
  refine LoopW.mk ⟨{ k : Nat // k ≤ xs.length },
    fun k => .mk [(0, .v (i.val xs.length)), (3, .v (y.val (xs.take k.1 ++ List.replicate (xs.length - k.1) Waiter0).length)), (4, .v (.int .i64 (k.1 : Int)))] 0 0 [] [] [own y 161 cWaiter 2 (xs.take k.1 ++ List.replicate (xs.length - k.1) Waiter0), slo i cWaiter 2 xs],
    fun k => xs.length - k.1, ⟨0, Nat.zero_le _⟩, ?_, ?_⟩
  · refine weak_mk [0, 1] ?_ ?_ ?_ ?_ ?_ rfl rfl
    · repeat (first | exact trivial | refine ⟨⟨_, rfl, (by first | exact .of rfl | exact .lit rfl | exact .of (by first | ((simp))) | exact .lit (by first | ((simp)))), (by first | exact trivial | exact Nat.le_of_ble_eq_true rfl | exact small1 rfl)⟩, ?_⟩)
    · repeat (first | exact trivial | refine ⟨⟨(by first | exact .head _ | exact .tail _ (.head _) | exact .tail _ (.tail _ (.head _)) | exact .tail _ (.tail _ (.tail _ (.head _))) | exact .tail _ (.tail _ (.tail _ (.tail _ (.head _)))) | exact .tail _ (.tail _ (.tail _ (.tail _ (.tail _ (.head _))))) | exact .tail _ (.tail _ (.tail _ (.tail _ (.tail _ (.tail _ (.head _)))))) | exact .tail _ (.tail _ (.tail _ (.tail _ (.tail _ (.tail _ (.tail _ (.head _))))))) | exact .tail _ (.tail _ (.tail _ (.tail _ (.tail _ (.tail _ (.tail _ (.tail _ (.head _)))))))) | exact .tail _ (.tail _ (.tail _ (.tail _ (.tail _ (.tail _ (.tail _ (.tail _ (.tail _ (.head _)))))))))), Nat.le_of_ble_eq_true rfl⟩, ?_⟩)
    · repeat (first | exact trivial | refine ⟨⟨_, rfl, (by first | exact .of rfl | exact .lit rfl | exact .of (by first | ((simp))) | exact .lit (by first | ((simp)))), (by first | exact trivial | exact Nat.le_of_ble_eq_true rfl | exact small1 rfl)⟩, ?_⟩)
    · repeat (first | exact trivial | refine ⟨⟨_, rfl⟩, ?_⟩)
    · repeat (first | exact trivial | refine ⟨.inl ⟨_, rfl, (by first | rfl | ((simp)))⟩, ?_⟩ | refine ⟨.inr ⟨Nat.le_of_ble_eq_true rfl, rfl, rfl, rfl, rfl⟩, ?_⟩)
  · rintro ⟨k, hk⟩
    refine CaseB.mk (fun h => ?_) (fun h => ?_)
    · have hlt : k < xs.length := by simpa using h
      have hT : (xs.take k ++ List.replicate (xs.length - k) Waiter0).set k xs[k] = xs.take (k + 1) ++ List.replicate (xs.length - (k + 1)) Waiter0 := by
        rw [List.set_append_right _ _ (by simp; omega), List.take_succ_eq_append_getElem hlt, show k - (List.take k xs).length = 0 by simp; omega, show xs.length - k = (xs.length - (k + 1)) + 1 by omega, List.replicate_succ, List.append_assoc]
        rfl
      refine stop_idx encWaiter tabOk rfl rfl rfl rfl rfl ⟨rfl, rfl⟩ (by first | exact rdAt 0 rfl | exact rdOwnAt 0 rfl | exact rdAt 1 rfl | exact rdOwnAt 1 rfl | exact rdAt 2 rfl | exact rdOwnAt 2 rfl | exact rdAt 3 rfl | exact rdOwnAt 3 rfl | exact rdAt 4 rfl | exact rdOwnAt 4 rfl | exact rdAt 5 rfl | exact rdOwnAt 5 rfl | exact rdAt 6 rfl | exact rdOwnAt 6 rfl | exact rdAt 7 rfl | exact rdOwnAt 7 rfl | exact rdAt 8 rfl | exact rdOwnAt 8 rfl | exact rdAt 9 rfl | exact rdOwnAt 9 rfl | exact rdAt 10 rfl | exact rdOwnAt 10 rfl | exact rdAt 11 rfl | exact rdOwnAt 11 rfl | exact rdAt 12 rfl | exact rdOwnAt 12 rfl | exact rdAt 13 rfl | exact rdOwnAt 13 rfl | exact rdAt 14 rfl | exact rdOwnAt 14 rfl | exact rdAt 15 rfl | exact rdOwnAt 15 rfl | exact rdAt 16 rfl | exact rdOwnAt 16 rfl | exact rdAt 17 rfl | exact rdOwnAt 17 rfl | exact rdAt 18 rfl | exact rdOwnAt 18 rfl | exact rdAt 19 rfl | exact rdOwnAt 19 rfl | exact rdAt 20 rfl | exact rdOwnAt 20 rfl | exact rdAt 21 rfl | exact rdOwnAt 21 rfl | exact rdAt 22 rfl | exact rdOwnAt 22 rfl | exact rdAt 23 rfl | exact rdOwnAt 23 rfl) k rfl (by first | omega | (simp; done) | (simp; omega) | (unfold maxLen; omega) | (unfold maxLen; simp; done) | (unfold maxLen; simp; omega)) (fun ad => ?_)
      refine stop_call _ cl126 rfl rfl rfl rfl ⟨rfl, rfl⟩ (fun A w hW => toWaiter_c _ w) ?_
      rintro v L ⟨rfl, rfl⟩
      refine stop_idxW encWaiter 0 tabOk rfl rfl rfl rfl rfl ⟨rfl, rfl⟩ rfl (by first | rfl | (simp; done)) k rfl (by first | omega | (simp; done) | (simp; omega) | (unfold maxLen; omega) | (unfold maxLen; simp; done) | (unfold maxLen; simp; omega)) (fun g hg => ?_)
      refine stop_storeW encWaiter 0 tabOk rfl rfl rfl rfl rfl rfl rfl rfl hg k 0 (xs[k]) rfl (by first | omega | (simp; done) | (simp; omega) | (unfold maxLen; omega) | (unfold maxLen; simp; done) | (unfold maxLen; simp; omega)) rfl (cWaiter xs[k]) (fun _ => rfl) rfl ?_
      have hw := e_succ k _ hlt (by omega)
      refine ⟨⟨k + 1, by omega⟩, ?_, by simp; omega⟩
      refine weak_mk [0, 1] ?_ ?_ ?_ ?_ ?_ rfl rfl
      · repeat (first | exact trivial | refine ⟨⟨_, rfl, (by first | exact .of rfl | exact .lit rfl | exact .of (by first | ((first | (rw [hT]; done) | (simp only; done) | exact congrArg (fun z => SV.v (Value.int .i64 z)) hw | (rw [← hT]; simp)))) | exact .lit (by first | ((first | (rw [hT]; done) | (simp only [hT]; done) | exact congrArg (fun z => SV.v (Value.int .i64 z)) hw | (rw [← hT]; simp))))), (by first | exact trivial | exact Nat.le_of_ble_eq_true rfl | exact small1 rfl)⟩, ?_⟩)
      · repeat (first | exact trivial | refine ⟨⟨(by first | exact .head _ | exact .tail _ (.head _) | exact .tail _ (.tail _ (.head _)) | exact .tail _ (.tail _ (.tail _ (.head _))) | exact .tail _ (.tail _ (.tail _ (.tail _ (.head _)))) | exact .tail _ (.tail _ (.tail _ (.tail _ (.tail _ (.head _))))) | exact .tail _ (.tail _ (.tail _ (.tail _ (.tail _ (.tail _ (.head _)))))) | exact .tail _ (.tail _ (.tail _ (.tail _ (.tail _ (.tail _ (.tail _ (.head _))))))) | exact .tail _ (.tail _ (.tail _ (.tail _ (.tail _ (.tail _ (.tail _ (.tail _ (.head _)))))))) | exact .tail _ (.tail _ (.tail _ (.tail _ (.tail _ (.tail _ (.tail _ (.tail _ (.tail _ (.head _)))))))))), Nat.le_of_ble_eq_true rfl⟩, ?_⟩)
      · repeat (first | exact trivial | refine ⟨⟨_, rfl, (by first | exact .of rfl | exact .lit rfl | exact .of (by first | ((first | (rw [hT]; done) | (simp only [hT]; done) | exact congrArg (fun z => SV.v (Value.int .i64 z)) hw | (rw [← hT]; simp)))) | exact .lit (by first | ((first | (rw [hT]; done) | (simp only [hT]; done) | exact congrArg (fun z => SV.v (Value.int .i64 z)) hw | (rw [← hT]; simp))))), (by first | exact trivial | exact Nat.le_of_ble_eq_true rfl | exact small1 rfl)⟩, ?_⟩)
      · repeat (first | exact trivial | refine ⟨⟨_, rfl⟩, ?_⟩)
      · repeat (first | exact trivial | refine ⟨.inl ⟨_, rfl, (by first | rfl | ((first | (rw [hT]; done) | (simp only [hT]; done) | exact congrArg (fun z => SV.v (Value.int .i64 z)) hw | (rw [← hT]; simp))))⟩, ?_⟩ | refine ⟨.inr ⟨Nat.le_of_ble_eq_true rfl, rfl, rfl, rfl, rfl⟩, ?_⟩)
    · have hge : xs.length ≤ k := by simpa using h
      have hT : xs.take k ++ List.replicate (xs.length - k) Waiter0 = xs := by rw [List.take_of_length_le hge, show xs.length - k = 0 by omega]; simp
      exact retw [0] ⟨y, rfl, rfl⟩ ⟨.inl ⟨_, rfl, (by first | rfl | ((simp only [hT])))⟩, trivial⟩ rfl ⟨rfl, trivial⟩ (fun _ => (by first | rfl | ((simp only [hT, resV, SV.den]))))

set_option maxRecDepth 100000 in
theorem eqWaiter_c (x y : Waiter) (w : World) : Calls Tryz.prog 134 #[.agg (cWaiter x).toArray, .agg (cWaiter y).toArray] w (Ret w fun v L => v = .bool (decide (x = y)) ∧ L = []) := by
  have hx : ∀ {a b : Waiter}, a = b ↔ a.t = b.t ∧ a.n = b.n := fun {a b} => ⟨fun h => by subst h; exact ⟨rfl, rfl⟩, fun h => by cases a; cases b; simp_all⟩
  refine calls2 Tryz.func134 rfl tabOk w _ rfl _ rfl [] trivial trivial _ _ (by decide) ?_
  refine CaseB.mk (fun h0 => ?_) (fun h0 => ?_)
  · have g : ¬ x = y := fun e => by subst e; simp at h0
    exact retw [] ⟨by simp [g], rfl⟩ trivial rfl trivial (fun _ => rfl)
  refine CaseB.mk (fun h1 => ?_) (fun h1 => ?_)
  · have g : ¬ x = y := fun e => by subst e; simp at h1
    exact retw [] ⟨by simp [g], rfl⟩ trivial rfl trivial (fun _ => rfl)
  · have g : x = y := hx.2 ⟨by simpa using h0, by simpa using h1⟩
    exact retw [] ⟨by simp [g], rfl⟩ trivial rfl trivial (fun _ => rfl)

set_option maxRecDepth 100000 in
theorem eqWaiterS_c (i j : Sl) (xs ys : List Waiter) (w : World) (h : At w [slo i cWaiter 2 xs, slo j cWaiter 2 ys]) (hb : xs.length ≤ 4294967296) (hb2 : ys.length ≤ 4294967296) :
    Calls Tryz.prog 109 #[i.val xs.length, j.val ys.length] w (Ret w fun v L => v = .bool (decide (xs = ys)) ∧ L = []) := by
  refine calls2 Tryz.func109 rfl tabOk w _ rfl _ rfl _ h ⟨rfl, rfl, rfl, rfl, trivial⟩ _ _ (by decide) ?_
  refine CaseB.mk (fun h => ?_) (fun h => ?_)
  · have hne : xs ≠ ys := by rintro rfl; simp at h
    refine retw [] ⟨?_, rfl⟩ trivial rfl trivial (fun _ => rfl)
    simp [hne]
  · have hl : xs.length = ys.length := by simp at h; omega
    refine LoopW.mk ⟨{ k : Nat // k ≤ xs.length ∧ xs.take k = ys.take k },
      fun p => .mk [(0, .v (i.val xs.length)), (1, .v (j.val ys.length)), (5, .v (.int .i64 p.1))] 0 0 [] [] [slo i cWaiter 2 xs, slo j cWaiter 2 ys],
      fun p => xs.length - p.1, ⟨0, Nat.zero_le _, rfl⟩, ?_, ?_⟩
    · refine weak_mk [0, 1] ?_ ?_ ?_ ?_ ?_ rfl rfl
      · repeat (first | exact trivial | refine ⟨⟨_, rfl, (by first | exact .of rfl | exact .lit rfl | exact .of (by first | (rfl)) | exact .lit (by first | (rfl))), (by first | exact trivial | exact Nat.le_of_ble_eq_true rfl | exact small1 rfl)⟩, ?_⟩)
      · repeat (first | exact trivial | refine ⟨⟨(by first | exact .head _ | exact .tail _ (.head _) | exact .tail _ (.tail _ (.head _)) | exact .tail _ (.tail _ (.tail _ (.head _))) | exact .tail _ (.tail _ (.tail _ (.tail _ (.head _)))) | exact .tail _ (.tail _ (.tail _ (.tail _ (.tail _ (.head _))))) | exact .tail _ (.tail _ (.tail _ (.tail _ (.tail _ (.tail _ (.head _)))))) | exact .tail _ (.tail _ (.tail _ (.tail _ (.tail _ (.tail _ (.tail _ (.head _))))))) | exact .tail _ (.tail _ (.tail _ (.tail _ (.tail _ (.tail _ (.tail _ (.tail _ (.head _)))))))) | exact .tail _ (.tail _ (.tail _ (.tail _ (.tail _ (.tail _ (.tail _ (.tail _ (.tail _ (.head _)))))))))), Nat.le_of_ble_eq_true rfl⟩, ?_⟩)
      · repeat (first | exact trivial | refine ⟨⟨_, rfl, (by first | exact .of rfl | exact .lit rfl | exact .of (by first | (rfl)) | exact .lit (by first | (rfl))), (by first | exact trivial | exact Nat.le_of_ble_eq_true rfl | exact small1 rfl)⟩, ?_⟩)
      · repeat (first | exact trivial | refine ⟨⟨_, rfl⟩, ?_⟩)
      · repeat (first | exact trivial | refine ⟨.inl ⟨_, rfl, (by first | rfl | (rfl))⟩, ?_⟩ | refine ⟨.inr ⟨Nat.le_of_ble_eq_true rfl, rfl, rfl, rfl, rfl⟩, ?_⟩)
    · rintro ⟨k, hk, he⟩
      refine CaseB.mk (fun h => ?_) (fun h => ?_)
      · have hlt : k < xs.length := by simpa using h
        have hlt2 : k < ys.length := by omega
        obtain ⟨q1, q2⟩ := e_take he hlt hlt2
        refine draw_start tabOk (by kernel_rfl) (by kernel_rfl) (by kernel_rfl) 200 [] [0, 1] [_, _] trivial trivial ⟨rfl, rfl, trivial⟩ rfl ?_
        refine d_idx (ti := tiOf tab) encWaiter tabOk rfl rfl rfl rfl rfl ⟨rfl, rfl⟩ (by first | exact rdAt 0 rfl | exact rdOwnAt 0 rfl | exact rdAt 1 rfl | exact rdOwnAt 1 rfl | exact rdAt 2 rfl | exact rdOwnAt 2 rfl | exact rdAt 3 rfl | exact rdOwnAt 3 rfl | exact rdAt 4 rfl | exact rdOwnAt 4 rfl | exact rdAt 5 rfl | exact rdOwnAt 5 rfl | exact rdAt 6 rfl | exact rdOwnAt 6 rfl | exact rdAt 7 rfl | exact rdOwnAt 7 rfl | exact rdAt 8 rfl | exact rdOwnAt 8 rfl | exact rdAt 9 rfl | exact rdOwnAt 9 rfl | exact rdAt 10 rfl | exact rdOwnAt 10 rfl | exact rdAt 11 rfl | exact rdOwnAt 11 rfl | exact rdAt 12 rfl | exact rdOwnAt 12 rfl | exact rdAt 13 rfl | exact rdOwnAt 13 rfl | exact rdAt 14 rfl | exact rdOwnAt 14 rfl | exact rdAt 15 rfl | exact rdOwnAt 15 rfl | exact rdAt 16 rfl | exact rdOwnAt 16 rfl | exact rdAt 17 rfl | exact rdOwnAt 17 rfl | exact rdAt 18 rfl | exact rdOwnAt 18 rfl | exact rdAt 19 rfl | exact rdOwnAt 19 rfl | exact rdAt 20 rfl | exact rdOwnAt 20 rfl | exact rdAt 21 rfl | exact rdOwnAt 21 rfl | exact rdAt 22 rfl | exact rdOwnAt 22 rfl | exact rdAt 23 rfl | exact rdOwnAt 23 rfl) k rfl (by first | omega | (simp; done) | (simp; omega) | (unfold maxLen; omega) | (unfold maxLen; simp; done) | (unfold maxLen; simp; omega)) (fun ad => ?_)
        refine d_idx (ti := tiOf tab) encWaiter tabOk rfl rfl rfl rfl rfl ⟨rfl, rfl⟩ (by first | exact rdAt 0 rfl | exact rdOwnAt 0 rfl | exact rdAt 1 rfl | exact rdOwnAt 1 rfl | exact rdAt 2 rfl | exact rdOwnAt 2 rfl | exact rdAt 3 rfl | exact rdOwnAt 3 rfl | exact rdAt 4 rfl | exact rdOwnAt 4 rfl | exact rdAt 5 rfl | exact rdOwnAt 5 rfl | exact rdAt 6 rfl | exact rdOwnAt 6 rfl | exact rdAt 7 rfl | exact rdOwnAt 7 rfl | exact rdAt 8 rfl | exact rdOwnAt 8 rfl | exact rdAt 9 rfl | exact rdOwnAt 9 rfl | exact rdAt 10 rfl | exact rdOwnAt 10 rfl | exact rdAt 11 rfl | exact rdOwnAt 11 rfl | exact rdAt 12 rfl | exact rdOwnAt 12 rfl | exact rdAt 13 rfl | exact rdOwnAt 13 rfl | exact rdAt 14 rfl | exact rdOwnAt 14 rfl | exact rdAt 15 rfl | exact rdOwnAt 15 rfl | exact rdAt 16 rfl | exact rdOwnAt 16 rfl | exact rdAt 17 rfl | exact rdOwnAt 17 rfl | exact rdAt 18 rfl | exact rdOwnAt 18 rfl | exact rdAt 19 rfl | exact rdOwnAt 19 rfl | exact rdAt 20 rfl | exact rdOwnAt 20 rfl | exact rdAt 21 rfl | exact rdOwnAt 21 rfl | exact rdAt 22 rfl | exact rdOwnAt 22 rfl | exact rdAt 23 rfl | exact rdOwnAt 23 rfl) k rfl (by first | omega | (simp; done) | (simp; omega) | (unfold maxLen; omega) | (unfold maxLen; simp; done) | (unfold maxLen; simp; omega)) (fun ad2 => ?_)
        refine d_call _ cl134 rfl rfl rfl rfl ⟨rfl, rfl⟩ (fun A w hW => eqWaiter_c _ _ w) ?_
        rintro v L ⟨rfl, rfl⟩
        refine CaseB.mk (fun h => ?_) (fun h => ?_)
        · have hne := q2 (by simpa using h)
          refine retw [] ⟨?_, rfl⟩ trivial rfl trivial (fun _ => rfl)
          simp [hne]
        · have heq := q1 (by simpa using h)
          have hw := e_succ k _ hlt (by omega)
          refine ⟨⟨k + 1, by omega, heq⟩, ?_, by simp; omega⟩
          refine weak_mk [0, 1] ?_ ?_ ?_ ?_ ?_ rfl rfl
          · repeat (first | exact trivial | refine ⟨⟨_, rfl, (by first | exact .of rfl | exact .lit rfl | exact .of (by first | ((exact congrArg (fun z => SV.v (Value.int .i64 z)) hw))) | exact .lit (by first | ((exact congrArg (fun z => SV.v (Value.int .i64 z)) hw)))), (by first | exact trivial | exact Nat.le_of_ble_eq_true rfl | exact small1 rfl)⟩, ?_⟩)
          · repeat (first | exact trivial | refine ⟨⟨(by first | exact .head _ | exact .tail _ (.head _) | exact .tail _ (.tail _ (.head _)) | exact .tail _ (.tail _ (.tail _ (.head _))) | exact .tail _ (.tail _ (.tail _ (.tail _ (.head _)))) | exact .tail _ (.tail _ (.tail _ (.tail _ (.tail _ (.head _))))) | exact .tail _ (.tail _ (.tail _ (.tail _ (.tail _ (.tail _ (.head _)))))) | exact .tail _ (.tail _ (.tail _ (.tail _ (.tail _ (.tail _ (.tail _ (.head _))))))) | exact .tail _ (.tail _ (.tail _ (.tail _ (.tail _ (.tail _ (.tail _ (.tail _ (.head _)))))))) | exact .tail _ (.tail _ (.tail _ (.tail _ (.tail _ (.tail _ (.tail _ (.tail _ (.tail _ (.head _)))))))))), Nat.le_of_ble_eq_true rfl⟩, ?_⟩)
          · repeat (first | exact trivial | refine ⟨⟨_, rfl, (by first | exact .of rfl | exact .lit rfl | exact .of (by first | ((exact congrArg (fun z => SV.v (Value.int .i64 z)) hw))) | exact .lit (by first | ((exact congrArg (fun z => SV.v (Value.int .i64 z)) hw)))), (by first | exact trivial | exact Nat.le_of_ble_eq_true rfl | exact small1 rfl)⟩, ?_⟩)
          · repeat (first | exact trivial | refine ⟨⟨_, rfl⟩, ?_⟩)
          · repeat (first | exact trivial | refine ⟨.inl ⟨_, rfl, (by first | rfl | ((exact congrArg (fun z => SV.v (Value.int .i64 z)) hw)))⟩, ?_⟩ | refine ⟨.inr ⟨Nat.le_of_ble_eq_true rfl, rfl, rfl, rfl, rfl⟩, ?_⟩)
      · have hge : xs.length ≤ k := by simpa using h
        have heq : xs = ys := by rw [List.take_of_length_le hge, List.take_of_length_le (by omega)] at he; exact he
        refine retw [] ⟨?_, rfl⟩ trivial rfl trivial (fun _ => rfl)
        simp [heq]

end Go.Proofs.YtchkcjeeknfchaaGreatDoor

namespace Go.Proofs.YtchkcjeeknfchaaGreatDoor

open Go Go.Sx Go.RowKit

def Sem.small20 (m : Sem) : Prop := m.queue.length ≤ 1048576

def szSemM (m : Sem) (left : Int) : Int := szStep m.queue.length left fun a0 => a0

theorem szSemM_gen (m : Sem) (l : Int) (hl : l ≤ 1048576) (h : ¬ szSemM m l < 0) : m.small20 ∧ szSemM m l ≤ l := by
  simp only [szSemM, szStep, szN] at h ⊢
  simp only [Sem.small20]
  omega

set_option maxRecDepth 100000 in
theorem szSem_c (m : Sem) (s0 : Sl) (left : Int) (w : World) (h : At w [slo s0 cWaiter 2 m.queue]) (h0 : -1 ≤ left) (h1 : left ≤ 1048576) :
    Calls Tryz.prog 56 #[semV m s0, .int .i64 left] w (Ret w fun v L => v = .int .i64 (szSemM m left) ∧ L = []) := by
  refine calls2 Tryz.func56 rfl tabOk w _ rfl _ rfl _ h ⟨rfl, rfl, trivial⟩ _ _ (by decide) ?_
  refine stop_call _ cl100 rfl rfl rfl rfl ⟨rfl, rfl⟩ (fun A w hW => szWaiterS_c s0 m.queue left w ⟨(by first | exact hW.rd 0 rfl | exact hW.rdOwn 0 rfl | exact hW.rd 1 rfl | exact hW.rdOwn 1 rfl | exact hW.rd 2 rfl | exact hW.rdOwn 2 rfl | exact hW.rd 3 rfl | exact hW.rdOwn 3 rfl | exact hW.rd 4 rfl | exact hW.rdOwn 4 rfl | exact hW.rd 5 rfl | exact hW.rdOwn 5 rfl | exact hW.rd 6 rfl | exact hW.rdOwn 6 rfl | exact hW.rd 7 rfl | exact hW.rdOwn 7 rfl | exact hW.rd 8 rfl | exact hW.rdOwn 8 rfl | exact hW.rd 9 rfl | exact hW.rdOwn 9 rfl | exact hW.rd 10 rfl | exact hW.rdOwn 10 rfl | exact hW.rd 11 rfl | exact hW.rdOwn 11 rfl | exact hW.rd 12 rfl | exact hW.rdOwn 12 rfl | exact hW.rd 13 rfl | exact hW.rdOwn 13 rfl | exact hW.rd 14 rfl | exact hW.rdOwn 14 rfl | exact hW.rd 15 rfl | exact hW.rdOwn 15 rfl | exact hW.rd 16 rfl | exact hW.rdOwn 16 rfl | exact hW.rd 17 rfl | exact hW.rdOwn 17 rfl | exact hW.rd 18 rfl | exact hW.rdOwn 18 rfl | exact hW.rd 19 rfl | exact hW.rdOwn 19 rfl | exact hW.rd 20 rfl | exact hW.rdOwn 20 rfl | exact hW.rd 21 rfl | exact hW.rdOwn 21 rfl | exact hW.rd 22 rfl | exact hW.rdOwn 22 rfl | exact hW.rd 23 rfl | exact hW.rdOwn 23 rfl), trivial⟩ h0 h1) ?_
  rintro v L ⟨rfl, rfl⟩
  refine CaseB.mk (fun g0 => ?_) (fun g0 => ?_)
  · have q : szN m.queue.length (left) < 0 := by simpa using g0
    refine retw [] ⟨?_, rfl⟩ trivial rfl trivial (fun _ => rfl)
    simp [szSemM, szStep, q]
  have q0 : ¬ szN m.queue.length (left) < 0 := by simpa using g0
  refine retw [] ⟨?_, rfl⟩ trivial rfl trivial (fun _ => rfl)
  simp [szSemM, szStep, q0]

set_option maxRecDepth 100000 in
theorem toSem_c (m : Sem) (s0 : Sl) (w : World) (h : At w [slo s0 cWaiter 2 m.queue]) (hb : m.small20) :
    Calls Tryz.prog 62 #[semV m s0] w (Ret w fun v L => ∃ y0 : Sl, v = semV m y0 ∧ L = [own y0 161 cWaiter 2 m.queue]) := by
  have b0 := hb
  unfold Sem.small20 at b0
  refine calls1 Tryz.func62 rfl tabOk w _ rfl _ rfl _ h ⟨rfl, rfl, trivial⟩ _ (by decide) ?_
  refine stop_call _ cl103 rfl rfl rfl rfl ⟨rfl, rfl⟩ (fun A w hW => toWaiterS_c s0 m.queue w ⟨(by first | exact hW.rd 0 rfl | exact hW.rdOwn 0 rfl | exact hW.rd 1 rfl | exact hW.rdOwn 1 rfl | exact hW.rd 2 rfl | exact hW.rdOwn 2 rfl | exact hW.rd 3 rfl | exact hW.rdOwn 3 rfl | exact hW.rd 4 rfl | exact hW.rdOwn 4 rfl | exact hW.rd 5 rfl | exact hW.rdOwn 5 rfl | exact hW.rd 6 rfl | exact hW.rdOwn 6 rfl | exact hW.rd 7 rfl | exact hW.rdOwn 7 rfl | exact hW.rd 8 rfl | exact hW.rdOwn 8 rfl | exact hW.rd 9 rfl | exact hW.rdOwn 9 rfl | exact hW.rd 10 rfl | exact hW.rdOwn 10 rfl | exact hW.rd 11 rfl | exact hW.rdOwn 11 rfl | exact hW.rd 12 rfl | exact hW.rdOwn 12 rfl | exact hW.rd 13 rfl | exact hW.rdOwn 13 rfl | exact hW.rd 14 rfl | exact hW.rdOwn 14 rfl | exact hW.rd 15 rfl | exact hW.rdOwn 15 rfl | exact hW.rd 16 rfl | exact hW.rdOwn 16 rfl | exact hW.rd 17 rfl | exact hW.rdOwn 17 rfl | exact hW.rd 18 rfl | exact hW.rdOwn 18 rfl | exact hW.rd 19 rfl | exact hW.rdOwn 19 rfl | exact hW.rd 20 rfl | exact hW.rdOwn 20 rfl | exact hW.rd 21 rfl | exact hW.rdOwn 21 rfl | exact hW.rd 22 rfl | exact hW.rdOwn 22 rfl | exact hW.rd 23 rfl | exact hW.rdOwn 23 rfl), trivial⟩ b0) ?_
  rintro v L ⟨y0, rfl, rfl⟩
  exact retw [0] ⟨y0, rfl, rfl⟩ ⟨.inl ⟨_, rfl, rfl⟩, trivial⟩ rfl ⟨rfl, trivial⟩ (fun _ => rfl)

set_option maxRecDepth 100000 in
theorem eqSem_c (m m2 : Sem) (s0 u0 : Sl) (w : World) (h : At w [slo s0 cWaiter 2 m.queue, slo u0 cWaiter 2 m2.queue]) (hb : m.small20) (hb2 : m2.small20) :
    Calls Tryz.prog 72 #[semV m s0, semV m2 u0] w (Ret w fun v L => v = .bool (decide (m = m2)) ∧ L = []) := by
  have hx : ∀ {a b : Sem}, a = b ↔ a.free = b.free ∧ a.limit = b.limit ∧ a.queue = b.queue := fun {a b} => ⟨fun h => by subst h; exact ⟨rfl, rfl, rfl⟩, fun h => by cases a; cases b; simp_all⟩
  have b0 := hb
  unfold Sem.small20 at b0
  have c0 := hb2
  unfold Sem.small20 at c0
  refine calls2 Tryz.func72 rfl tabOk w _ rfl _ rfl _ h ⟨rfl, rfl, rfl, rfl, trivial⟩ _ _ (by decide) ?_
  refine CaseB.mk (fun h0 => ?_) (fun h0 => ?_)
  · have g : ¬ m = m2 := fun e => by subst e; simp at h0
    exact retw [] ⟨by simp [g], rfl⟩ trivial rfl trivial (fun _ => rfl)
  refine CaseB.mk (fun h1 => ?_) (fun h1 => ?_)
  · have g : ¬ m = m2 := fun e => by subst e; simp at h1
    exact retw [] ⟨by simp [g], rfl⟩ trivial rfl trivial (fun _ => rfl)
  refine stop_call _ cl109 rfl rfl rfl rfl ⟨rfl, rfl⟩ (fun A w hW => eqWaiterS_c s0 u0 m.queue m2.queue w ⟨(by first | exact hW.rd 0 rfl | exact hW.rdOwn 0 rfl | exact hW.rd 1 rfl | exact hW.rdOwn 1 rfl | exact hW.rd 2 rfl | exact hW.rdOwn 2 rfl | exact hW.rd 3 rfl | exact hW.rdOwn 3 rfl | exact hW.rd 4 rfl | exact hW.rdOwn 4 rfl | exact hW.rd 5 rfl | exact hW.rdOwn 5 rfl | exact hW.rd 6 rfl | exact hW.rdOwn 6 rfl | exact hW.rd 7 rfl | exact hW.rdOwn 7 rfl | exact hW.rd 8 rfl | exact hW.rdOwn 8 rfl | exact hW.rd 9 rfl | exact hW.rdOwn 9 rfl | exact hW.rd 10 rfl | exact hW.rdOwn 10 rfl | exact hW.rd 11 rfl | exact hW.rdOwn 11 rfl | exact hW.rd 12 rfl | exact hW.rdOwn 12 rfl | exact hW.rd 13 rfl | exact hW.rdOwn 13 rfl | exact hW.rd 14 rfl | exact hW.rdOwn 14 rfl | exact hW.rd 15 rfl | exact hW.rdOwn 15 rfl | exact hW.rd 16 rfl | exact hW.rdOwn 16 rfl | exact hW.rd 17 rfl | exact hW.rdOwn 17 rfl | exact hW.rd 18 rfl | exact hW.rdOwn 18 rfl | exact hW.rd 19 rfl | exact hW.rdOwn 19 rfl | exact hW.rd 20 rfl | exact hW.rdOwn 20 rfl | exact hW.rd 21 rfl | exact hW.rdOwn 21 rfl | exact hW.rd 22 rfl | exact hW.rdOwn 22 rfl | exact hW.rd 23 rfl | exact hW.rdOwn 23 rfl), (by first | exact hW.rd 0 rfl | exact hW.rdOwn 0 rfl | exact hW.rd 1 rfl | exact hW.rdOwn 1 rfl | exact hW.rd 2 rfl | exact hW.rdOwn 2 rfl | exact hW.rd 3 rfl | exact hW.rdOwn 3 rfl | exact hW.rd 4 rfl | exact hW.rdOwn 4 rfl | exact hW.rd 5 rfl | exact hW.rdOwn 5 rfl | exact hW.rd 6 rfl | exact hW.rdOwn 6 rfl | exact hW.rd 7 rfl | exact hW.rdOwn 7 rfl | exact hW.rd 8 rfl | exact hW.rdOwn 8 rfl | exact hW.rd 9 rfl | exact hW.rdOwn 9 rfl | exact hW.rd 10 rfl | exact hW.rdOwn 10 rfl | exact hW.rd 11 rfl | exact hW.rdOwn 11 rfl | exact hW.rd 12 rfl | exact hW.rdOwn 12 rfl | exact hW.rd 13 rfl | exact hW.rdOwn 13 rfl | exact hW.rd 14 rfl | exact hW.rdOwn 14 rfl | exact hW.rd 15 rfl | exact hW.rdOwn 15 rfl | exact hW.rd 16 rfl | exact hW.rdOwn 16 rfl | exact hW.rd 17 rfl | exact hW.rdOwn 17 rfl | exact hW.rd 18 rfl | exact hW.rdOwn 18 rfl | exact hW.rd 19 rfl | exact hW.rdOwn 19 rfl | exact hW.rd 20 rfl | exact hW.rdOwn 20 rfl | exact hW.rd 21 rfl | exact hW.rdOwn 21 rfl | exact hW.rd 22 rfl | exact hW.rdOwn 22 rfl | exact hW.rd 23 rfl | exact hW.rdOwn 23 rfl), trivial⟩ (by omega) (by omega)) ?_
  rintro v L ⟨rfl, rfl⟩
  refine CaseB.mk (fun h2 => ?_) (fun h2 => ?_)
  · have g : ¬ m = m2 := fun e => by subst e; simp at h2
    exact retw [] ⟨by simp [g], rfl⟩ trivial rfl trivial (fun _ => rfl)
  have g : m = m2 := hx.2 ⟨by simpa using h0, by simpa using h1, by simpa using h2⟩
  exact retw [] ⟨by simp [g], rfl⟩ trivial rfl trivial (fun _ => rfl)

end Go.Proofs.YtchkcjeeknfchaaGreatDoor

namespace Go.Proofs.YtchkcjeeknfchaaGreatDoor

open Go Go.Sx Go.RowKit

set_option maxRecDepth 100000 in
theorem szSemS_c (h : Sl) (xs : List SemH) (left : Int) (w : World) (hh : At w [fR (semsO h xs)]) (h0 : -1 ≤ left) (h1 : left ≤ 1048576) :
    Calls Tryz.prog 18 #[h.val xs.length, .int .i64 left] w (Ret w fun v L => v = .int .i64 (szAll szSemM (xs.map (·.m)) left) ∧ L = []) := by
  have hrd := (Rd.ofR (nest_h (xs := xs))).p w hh.1.1
  obtain ⟨_, b1, b2, _⟩ := hrd
  unfold maxLen at b2
  have e : IntKind.i64.wrap (left - (xs.length : Int)) = left - xs.length := e_wrap (by omega) (by omega)
  refine calls2 Tryz.func18 rfl tabOk w _ rfl _ rfl _ hh ⟨rfl, rfl, trivial⟩ _ _ (by decide) ?_
  refine CaseB.mk (fun g => ?_) (fun g => ?_)
  · rw [e] at g
    have g2 : left - (xs.length : Int) < 0 := by simpa using g
    exact retw [] ⟨by simp [szAll, g2], rfl⟩ trivial rfl trivial (fun _ => rfl)
  · rw [e] at g
    have g2 : ¬ left - (xs.length : Int) < 0 := by simpa using g
    refine LoopW.mk ⟨{ p : Nat × Int // p.1 ≤ xs.length ∧ szList szSemM ((xs.map (·.m)).drop p.1) p.2 = szAll szSemM (xs.map (·.m)) left ∧ -1 ≤ p.2 ∧ p.2 ≤ 1048576 },
      fun p => .mk [(0, .v (h.val xs.length)), (1, .v (.int .i64 p.1.2)), (5, .v (.int .i64 (p.1.1 : Int)))] 0 0 [] [] [fR (semsO h xs)],
      fun p => xs.length - p.1.1, ⟨(0, left - xs.length), Nat.zero_le _, by simp [szAll, g2], by omega, by omega⟩, ?_, ?_⟩
    · refine weak_mk [0] ?_ ?_ ?_ ?_ ?_ rfl rfl
      · repeat (first | exact trivial | refine ⟨⟨_, rfl, (by first | exact .of rfl | exact .lit rfl | exact .of (by first | ((simp only [e]))) | exact .lit (by first | ((simp only [e])))), (by first | exact trivial | exact Nat.le_of_ble_eq_true rfl | exact small1 rfl)⟩, ?_⟩)
      · repeat (first | exact trivial | refine ⟨⟨(by first | exact .head _ | exact .tail _ (.head _) | exact .tail _ (.tail _ (.head _)) | exact .tail _ (.tail _ (.tail _ (.head _))) | exact .tail _ (.tail _ (.tail _ (.tail _ (.head _)))) | exact .tail _ (.tail _ (.tail _ (.tail _ (.tail _ (.head _))))) | exact .tail _ (.tail _ (.tail _ (.tail _ (.tail _ (.tail _ (.head _)))))) | exact .tail _ (.tail _ (.tail _ (.tail _ (.tail _ (.tail _ (.tail _ (.head _))))))) | exact .tail _ (.tail _ (.tail _ (.tail _ (.tail _ (.tail _ (.tail _ (.tail _ (.head _)))))))) | exact .tail _ (.tail _ (.tail _ (.tail _ (.tail _ (.tail _ (.tail _ (.tail _ (.tail _ (.head _)))))))))), Nat.le_of_ble_eq_true rfl⟩, ?_⟩)
      · repeat (first | exact trivial | refine ⟨⟨_, rfl, (by first | exact .of rfl | exact .lit rfl | exact .of (by first | ((simp only [e]))) | exact .lit (by first | ((simp only [e])))), (by first | exact trivial | exact Nat.le_of_ble_eq_true rfl | exact small1 rfl)⟩, ?_⟩)
      · repeat (first | exact trivial | refine ⟨⟨_, rfl⟩, ?_⟩)
      · repeat (first | exact trivial | refine ⟨.inl ⟨_, rfl, (by first | rfl | ((simp only [e])))⟩, ?_⟩ | refine ⟨.inr ⟨Nat.le_of_ble_eq_true rfl, rfl, rfl, rfl, rfl⟩, ?_⟩)
    · rintro ⟨⟨k, l⟩, hk, hl, hl0, hl1⟩
      simp only at hk hl hl0 hl1
      refine CaseB.mk (fun g3 => ?_) (fun g3 => ?_)
      · have hlt : k < xs.length := by simpa using g3
        rw [List.drop_eq_getElem_cons (by simpa using hlt)] at hl
        simp only [szList, List.getElem_map] at hl
        refine stop_idx encSemH tabOk rfl rfl rfl rfl rfl ⟨rfl, rfl⟩ (rdVia 0 rfl (.ofR nest_h)) k rfl (by first | omega | (simp; done) | (simp; omega) | (unfold maxLen; omega) | (unfold maxLen; simp; done) | (unfold maxLen; simp; omega)) (fun ad => ?_)
        refine stop_call _ cl56 rfl rfl rfl rfl ⟨rfl, rfl⟩ (fun A w hW => szSem_c _ _ _ w ⟨hW.get 0 rfl (.ofR (semsO_0 h xs k hlt)), trivial⟩ hl0 hl1) ?_
        rintro v L ⟨rfl, rfl⟩
        refine CaseB.mk (fun g4 => ?_) (fun g4 => ?_)
        · have q : szSemM xs[k].m l < 0 := by simpa using g4
          rw [if_pos q] at hl
          exact retw [] ⟨by rw [← hl], rfl⟩ trivial rfl trivial (fun _ => rfl)
        · have q : ¬ szSemM xs[k].m l < 0 := by simpa using g4
          rw [if_neg q] at hl
          have q2 := (szSemM_gen xs[k].m l hl1 q).2
          have hw := e_succ k _ hlt (by omega)
          refine ⟨⟨(k + 1, szSemM xs[k].m l), hlt, hl, by omega, by omega⟩, ?_, by simp only; omega⟩
          refine weak_mk [0] ?_ ?_ ?_ ?_ ?_ rfl rfl
          · repeat (first | exact trivial | refine ⟨⟨_, rfl, (by first | exact .of rfl | exact .lit rfl | exact .of (by first | ((exact congrArg (fun z => SV.v (Value.int .i64 z)) hw))) | exact .lit (by first | ((exact congrArg (fun z => SV.v (Value.int .i64 z)) hw)))), (by first | exact trivial | exact Nat.le_of_ble_eq_true rfl | exact small1 rfl)⟩, ?_⟩)
          · repeat (first | exact trivial | refine ⟨⟨(by first | exact .head _ | exact .tail _ (.head _) | exact .tail _ (.tail _ (.head _)) | exact .tail _ (.tail _ (.tail _ (.head _))) | exact .tail _ (.tail _ (.tail _ (.tail _ (.head _)))) | exact .tail _ (.tail _ (.tail _ (.tail _ (.tail _ (.head _))))) | exact .tail _ (.tail _ (.tail _ (.tail _ (.tail _ (.tail _ (.head _)))))) | exact .tail _ (.tail _ (.tail _ (.tail _ (.tail _ (.tail _ (.tail _ (.head _))))))) | exact .tail _ (.tail _ (.tail _ (.tail _ (.tail _ (.tail _ (.tail _ (.tail _ (.head _)))))))) | exact .tail _ (.tail _ (.tail _ (.tail _ (.tail _ (.tail _ (.tail _ (.tail _ (.tail _ (.head _)))))))))), Nat.le_of_ble_eq_true rfl⟩, ?_⟩)
          · repeat (first | exact trivial | refine ⟨⟨_, rfl, (by first | exact .of rfl | exact .lit rfl | exact .of (by first | ((exact congrArg (fun z => SV.v (Value.int .i64 z)) hw))) | exact .lit (by first | ((exact congrArg (fun z => SV.v (Value.int .i64 z)) hw)))), (by first | exact trivial | exact Nat.le_of_ble_eq_true rfl | exact small1 rfl)⟩, ?_⟩)
          · repeat (first | exact trivial | refine ⟨⟨_, rfl⟩, ?_⟩)
          · repeat (first | exact trivial | refine ⟨.inl ⟨_, rfl, (by first | rfl | ((exact congrArg (fun z => SV.v (Value.int .i64 z)) hw)))⟩, ?_⟩ | refine ⟨.inr ⟨Nat.le_of_ble_eq_true rfl, rfl, rfl, rfl, rfl⟩, ?_⟩)
      · have hge : xs.length ≤ k := by simpa using g3
        rw [List.drop_eq_nil_of_le (by simpa using hge)] at hl
        exact retw [] ⟨congrArg (Value.int .i64) hl, rfl⟩ trivial rfl trivial (fun _ => rfl)

def SemH0 : SemH := ⟨⟨0, 0, []⟩, ⟨none, 0⟩⟩

set_option maxRecDepth 100000 in
theorem toSemS_c (h : Sl) (xs : List SemH) (w : World) (hh : At w [fR (semsO h xs)]) (hl : xs.length ≤ 1048576) (hb : ∀ x ∈ xs, Sem.small20 x.m) :
    Calls Tryz.prog 26 #[h.val xs.length] w (Ret w fun v L => ∃ (y : Sl) (ys : List SemH), v = y.val ys.length ∧ ys.map (·.m) = xs.map (·.m) ∧ L = [fO (semsO y ys)]) := by
  refine calls1 Tryz.func26 rfl tabOk w _ rfl _ rfl _ hh ⟨rfl, rfl, trivial⟩ _ (by decide) ?_
  refine stop_make encSemH SemH0 tabOk rfl rfl rfl rfl rfl (by decide) ⟨rfl, rfl⟩ xs.length rfl (by first | omega | (simp; done) | (simp; omega) | (unfold maxLen; omega) | (unfold maxLen; simp; done) | (unfold maxLen; simp; omega)) (by first | omega | (simp; done) | (simp; omega) | (unfold maxLen; omega) | (unfold maxLen; simp; done) | (unfold maxLen; simp; omega)) (fun y => ?_)
  refine LoopW.mk ⟨{ p : Nat × List SemH // p.1 ≤ xs.length ∧ p.2.map (·.m) = (xs.map (·.m)).take p.1 },
    fun p => .mk [(0, .v (h.val xs.length)), (3, .v (y.val (p.1.2 ++ List.replicate (xs.length - p.1.1) SemH0).length)), (4, .v (.int .i64 (p.1.1 : Int)))] 0 0 [] [] [own y 85 cSemH 3 (p.1.2 ++ List.replicate (xs.length - p.1.1) SemH0), fO (p.1.2.flatMap semO), fR (semsO h xs)],
    fun p => xs.length - p.1.1, ⟨(0, []), Nat.zero_le _, by simp⟩, ?_, ?_⟩
  · refine weak_shift (.joinO [] (Gs := []) trivial rfl (.refl _)) ?_
    refine weak_mk [1, 0, 2] ?_ ?_ ?_ ?_ ?_ rfl rfl
    · repeat (first | exact trivial | refine ⟨⟨_, rfl, (by first | exact .of rfl | exact .lit rfl | exact .of (by first | ((simp))) | exact .lit (by first | ((simp)))), (by first | exact trivial | exact Nat.le_of_ble_eq_true rfl | exact small1 rfl)⟩, ?_⟩)
    · repeat (first | exact trivial | refine ⟨⟨(by first | exact .head _ | exact .tail _ (.head _) | exact .tail _ (.tail _ (.head _)) | exact .tail _ (.tail _ (.tail _ (.head _))) | exact .tail _ (.tail _ (.tail _ (.tail _ (.head _)))) | exact .tail _ (.tail _ (.tail _ (.tail _ (.tail _ (.head _))))) | exact .tail _ (.tail _ (.tail _ (.tail _ (.tail _ (.tail _ (.head _)))))) | exact .tail _ (.tail _ (.tail _ (.tail _ (.tail _ (.tail _ (.tail _ (.head _))))))) | exact .tail _ (.tail _ (.tail _ (.tail _ (.tail _ (.tail _ (.tail _ (.tail _ (.head _)))))))) | exact .tail _ (.tail _ (.tail _ (.tail _ (.tail _ (.tail _ (.tail _ (.tail _ (.tail _ (.head _)))))))))), Nat.le_of_ble_eq_true rfl⟩, ?_⟩)
    · repeat (first | exact trivial | refine ⟨⟨_, rfl, (by first | exact .of rfl | exact .lit rfl | exact .of (by first | ((simp))) | exact .lit (by first | ((simp)))), (by first | exact trivial | exact Nat.le_of_ble_eq_true rfl | exact small1 rfl)⟩, ?_⟩)
    · repeat (first | exact trivial | refine ⟨⟨_, rfl⟩, ?_⟩)
    · repeat (first | exact trivial | refine ⟨.inl ⟨_, rfl, (by first | rfl | ((simp)))⟩, ?_⟩ | refine ⟨.inr ⟨Nat.le_of_ble_eq_true rfl, rfl, rfl, rfl, rfl⟩, ?_⟩)
  · rintro ⟨⟨k, ys⟩, hk, hy⟩
    simp only at hk hy
    have hyl : ys.length = k := by have := congrArg List.length hy; simp at this; omega
    refine CaseB.mk (fun g => ?_) (fun g => ?_)
    · have hlt : k < xs.length := by simpa using g
      have hlt2 : k < (ys ++ List.replicate (xs.length - k) SemH0).length := by simp; omega
      refine stop_idx encSemH tabOk rfl rfl rfl rfl rfl ⟨rfl, rfl⟩ (rdVia 2 rfl (.ofR nest_h)) k rfl (by first | omega | (simp; done) | (simp; omega) | (unfold maxLen; omega) | (unfold maxLen; simp; done) | (unfold maxLen; simp; omega)) (fun ad => ?_)
      refine stop_call _ cl62 rfl rfl rfl rfl ⟨rfl, rfl⟩ (fun A w hW => toSem_c _ _ w ⟨hW.get 2 rfl (.ofR (semsO_0 h xs k hlt)), trivial⟩ (hb _ (List.getElem_mem hlt))) ?_
      rintro v L ⟨y0, rfl, rfl⟩
      generalize hx : (⟨xs[k].m, y0⟩ : SemH) = x
      have hxm : x.m = xs[k].m := by rw [← hx]
      have hT : (ys ++ List.replicate (xs.length - k) SemH0).set k x = (ys ++ [x]) ++ List.replicate (xs.length - (k + 1)) SemH0 := by
        rw [List.set_append_right _ _ (by omega), show k - ys.length = 0 by omega, show xs.length - k = (xs.length - (k + 1)) + 1 by omega, List.replicate_succ, List.append_assoc]
        rfl
      generalize hq : (ys ++ List.replicate (xs.length - k) SemH0) = Q at hT hlt2
      refine stop_idxW encSemH 1 tabOk rfl rfl rfl rfl rfl ⟨rfl, rfl⟩ rfl (by first | rfl | (simp; done)) k rfl hlt2 (fun g1 hg1 => ?_)
      refine stop_storeW encSemH 1 tabOk rfl rfl rfl rfl rfl rfl rfl rfl hg1 k 0 x rfl hlt2 rfl (cSemH x) (fun _ => by rw [← hx]; rfl) (by rw [List.drop_eq_nil_of_le (by exact Nat.le_refl _)]; simp) ?_
      have hw := e_succ k _ hlt (by omega)
      refine ⟨⟨(k + 1, ys ++ [x]), hlt, by rw [List.map_append]; exact map_take_succ hlt hy hxm⟩, ?_, by simp only; omega⟩
      refine weak_shift (.joinO [1, 2] (Gs := [[_], _]) ⟨.inl ⟨_, rfl, .own⟩, .inl ⟨_, rfl, .o⟩, trivial⟩ rfl (G := (ys ++ [x]).flatMap semO) (by subst hx; rw [List.flatMap_append]; exact (List.Perm.of_eq (by simp [semO])).trans List.perm_append_comm)) ?_
      refine weak_mk [1, 0, 2] ?_ ?_ ?_ ?_ ?_ rfl rfl
      · repeat (first | exact trivial | refine ⟨⟨_, rfl, (by first | exact .of rfl | exact .lit rfl | exact .of (by first | ((first | (rw [hT]; done) | (simp only; done) | exact congrArg (fun z => SV.v (Value.int .i64 z)) hw | (rw [← hT]; simp)))) | exact .lit (by first | ((first | (rw [hT]; done) | (simp only [hT]; done) | exact congrArg (fun z => SV.v (Value.int .i64 z)) hw | (rw [← hT]; simp))))), (by first | exact trivial | exact Nat.le_of_ble_eq_true rfl | exact small1 rfl)⟩, ?_⟩)
      · repeat (first | exact trivial | refine ⟨⟨(by first | exact .head _ | exact .tail _ (.head _) | exact .tail _ (.tail _ (.head _)) | exact .tail _ (.tail _ (.tail _ (.head _))) | exact .tail _ (.tail _ (.tail _ (.tail _ (.head _)))) | exact .tail _ (.tail _ (.tail _ (.tail _ (.tail _ (.head _))))) | exact .tail _ (.tail _ (.tail _ (.tail _ (.tail _ (.tail _ (.head _)))))) | exact .tail _ (.tail _ (.tail _ (.tail _ (.tail _ (.tail _ (.tail _ (.head _))))))) | exact .tail _ (.tail _ (.tail _ (.tail _ (.tail _ (.tail _ (.tail _ (.tail _ (.head _)))))))) | exact .tail _ (.tail _ (.tail _ (.tail _ (.tail _ (.tail _ (.tail _ (.tail _ (.tail _ (.head _)))))))))), Nat.le_of_ble_eq_true rfl⟩, ?_⟩)
      · repeat (first | exact trivial | refine ⟨⟨_, rfl, (by first | exact .of rfl | exact .lit rfl | exact .of (by first | ((first | (rw [hT]; done) | (simp only [hT]; done) | exact congrArg (fun z => SV.v (Value.int .i64 z)) hw | (rw [← hT]; simp)))) | exact .lit (by first | ((first | (rw [hT]; done) | (simp only [hT]; done) | exact congrArg (fun z => SV.v (Value.int .i64 z)) hw | (rw [← hT]; simp))))), (by first | exact trivial | exact Nat.le_of_ble_eq_true rfl | exact small1 rfl)⟩, ?_⟩)
      · repeat (first | exact trivial | refine ⟨⟨_, rfl⟩, ?_⟩)
      · repeat (first | exact trivial | refine ⟨.inl ⟨_, rfl, (by first | rfl | ((first | (rw [hT]; done) | (simp only [hT]; done) | exact congrArg (fun z => SV.v (Value.int .i64 z)) hw | (rw [← hT]; simp))))⟩, ?_⟩ | refine ⟨.inr ⟨Nat.le_of_ble_eq_true rfl, rfl, rfl, rfl, rfl⟩, ?_⟩)
    · have hge : xs.length ≤ k := by simpa using g
      have hT : ys ++ List.replicate (xs.length - k) SemH0 = ys := by rw [show xs.length - k = 0 by omega]; simp
      simp only [hT]
      refine ret_shift (.joinO [0, 1] (Gs := [[_], _]) ⟨.inl ⟨_, rfl, .own⟩, .inl ⟨_, rfl, .o⟩, trivial⟩ rfl (G := semsO y ys) (.of_eq (by simp [semsO, nestO]))) ?_
      exact retw [0] ⟨y, ys, rfl, by rw [hy, List.take_of_length_le (by simpa using hge)], rfl⟩ ⟨.inl ⟨_, rfl, rfl⟩, trivial⟩ rfl ⟨rfl, trivial⟩ (fun _ => rfl)

set_option maxRecDepth 100000 in
theorem eqSemS_c (h h2 : Sl) (xs ys : List SemH) (w : World) (hh : At w [fR (semsO h xs), fR (semsO h2 ys)]) (hl : xs.length ≤ 1048576) (hb : ∀ x ∈ xs, Sem.small20 x.m) (hb2 : ∀ x ∈ ys, Sem.small20 x.m) :
    Calls Tryz.prog 35 #[h.val xs.length, h2.val ys.length] w (Ret w fun v L => v = .bool (decide (xs.map (·.m) = ys.map (·.m))) ∧ L = []) := by
  refine calls2 Tryz.func35 rfl tabOk w _ rfl _ rfl _ hh ⟨rfl, rfl, rfl, rfl, trivial⟩ _ _ (by decide) ?_
  refine CaseB.mk (fun g => ?_) (fun g => ?_)
  · have hne : xs.map (·.m) ≠ ys.map (·.m) := fun e => by
      have := congrArg List.length e
      simp at this g
      omega
    refine retw [] ⟨?_, rfl⟩ trivial rfl trivial (fun _ => rfl)
    simp [hne]
  · have hll : xs.length = ys.length := by simp at g; omega
    refine LoopW.mk ⟨{ k : Nat // k ≤ xs.length ∧ (xs.map (·.m)).take k = (ys.map (·.m)).take k },
      fun p => .mk [(0, .v (h.val xs.length)), (1, .v (h2.val ys.length)), (5, .v (.int .i64 p.1))] 0 0 [] [] [fR (semsO h xs), fR (semsO h2 ys)],
      fun p => xs.length - p.1, ⟨0, Nat.zero_le _, rfl⟩, ?_, ?_⟩
    · refine weak_mk [0, 1] ?_ ?_ ?_ ?_ ?_ rfl rfl
      · repeat (first | exact trivial | refine ⟨⟨_, rfl, (by first | exact .of rfl | exact .lit rfl | exact .of (by first | (rfl)) | exact .lit (by first | (rfl))), (by first | exact trivial | exact Nat.le_of_ble_eq_true rfl | exact small1 rfl)⟩, ?_⟩)
      · repeat (first | exact trivial | refine ⟨⟨(by first | exact .head _ | exact .tail _ (.head _) | exact .tail _ (.tail _ (.head _)) | exact .tail _ (.tail _ (.tail _ (.head _))) | exact .tail _ (.tail _ (.tail _ (.tail _ (.head _)))) | exact .tail _ (.tail _ (.tail _ (.tail _ (.tail _ (.head _))))) | exact .tail _ (.tail _ (.tail _ (.tail _ (.tail _ (.tail _ (.head _)))))) | exact .tail _ (.tail _ (.tail _ (.tail _ (.tail _ (.tail _ (.tail _ (.head _))))))) | exact .tail _ (.tail _ (.tail _ (.tail _ (.tail _ (.tail _ (.tail _ (.tail _ (.head _)))))))) | exact .tail _ (.tail _ (.tail _ (.tail _ (.tail _ (.tail _ (.tail _ (.tail _ (.tail _ (.head _)))))))))), Nat.le_of_ble_eq_true rfl⟩, ?_⟩)
      · repeat (first | exact trivial | refine ⟨⟨_, rfl, (by first | exact .of rfl | exact .lit rfl | exact .of (by first | (rfl)) | exact .lit (by first | (rfl))), (by first | exact trivial | exact Nat.le_of_ble_eq_true rfl | exact small1 rfl)⟩, ?_⟩)
      · repeat (first | exact trivial | refine ⟨⟨_, rfl⟩, ?_⟩)
      · repeat (first | exact trivial | refine ⟨.inl ⟨_, rfl, (by first | rfl | (rfl))⟩, ?_⟩ | refine ⟨.inr ⟨Nat.le_of_ble_eq_true rfl, rfl, rfl, rfl, rfl⟩, ?_⟩)
    · rintro ⟨k, hk, he⟩
      refine CaseB.mk (fun g2 => ?_) (fun g2 => ?_)
      · have hlt : k < xs.length := by simpa using g2
        have hlt2 : k < ys.length := by omega
        obtain ⟨q1, q2⟩ := take_eq_succ he (by simpa using hlt) (by simpa using hlt2)
        simp only [List.getElem_map] at q1 q2
        refine draw_start tabOk (by kernel_rfl) (by kernel_rfl) (by kernel_rfl) 200 [] [0, 1] [_, _] trivial trivial ⟨rfl, rfl, trivial⟩ rfl ?_
        refine d_idx (ti := tiOf tab) encSemH tabOk rfl rfl rfl rfl rfl ⟨rfl, rfl⟩ (rdVia 0 rfl (.ofR nest_h)) k rfl (by first | omega | (simp; done) | (simp; omega) | (unfold maxLen; omega) | (unfold maxLen; simp; done) | (unfold maxLen; simp; omega)) (fun ad => ?_)
        refine d_idx (ti := tiOf tab) encSemH tabOk rfl rfl rfl rfl rfl ⟨rfl, rfl⟩ (rdVia 1 rfl (.ofR nest_h)) k rfl (by first | omega | (simp; done) | (simp; omega) | (unfold maxLen; omega) | (unfold maxLen; simp; done) | (unfold maxLen; simp; omega)) (fun ad2 => ?_)
        refine d_call _ cl72 rfl rfl rfl rfl ⟨rfl, rfl⟩ (fun A w hW => eqSem_c _ _ _ _ w ⟨hW.get 0 rfl (.ofR (semsO_0 h xs k hlt)), hW.get 1 rfl (.ofR (semsO_0 h2 ys k hlt2)), trivial⟩ (hb _ (List.getElem_mem hlt)) (hb2 _ (List.getElem_mem hlt2))) ?_
        rintro v L ⟨rfl, rfl⟩
        refine CaseB.mk (fun g3 => ?_) (fun g3 => ?_)
        · have hne := q2 (by simpa using g3)
          refine retw [] ⟨?_, rfl⟩ trivial rfl trivial (fun _ => rfl)
          simp [hne]
        · have heq := q1 (by simpa using g3)
          have hw := e_succ k _ hlt (by omega)
          refine ⟨⟨k + 1, by omega, heq⟩, ?_, by simp; omega⟩
          refine weak_mk [0, 1] ?_ ?_ ?_ ?_ ?_ rfl rfl
          · repeat (first | exact trivial | refine ⟨⟨_, rfl, (by first | exact .of rfl | exact .lit rfl | exact .of (by first | ((exact congrArg (fun z => SV.v (Value.int .i64 z)) hw))) | exact .lit (by first | ((exact congrArg (fun z => SV.v (Value.int .i64 z)) hw)))), (by first | exact trivial | exact Nat.le_of_ble_eq_true rfl | exact small1 rfl)⟩, ?_⟩)
          · repeat (first | exact trivial | refine ⟨⟨(by first | exact .head _ | exact .tail _ (.head _) | exact .tail _ (.tail _ (.head _)) | exact .tail _ (.tail _ (.tail _ (.head _))) | exact .tail _ (.tail _ (.tail _ (.tail _ (.head _)))) | exact .tail _ (.tail _ (.tail _ (.tail _ (.tail _ (.head _))))) | exact .tail _ (.tail _ (.tail _ (.tail _ (.tail _ (.tail _ (.head _)))))) | exact .tail _ (.tail _ (.tail _ (.tail _ (.tail _ (.tail _ (.tail _ (.head _))))))) | exact .tail _ (.tail _ (.tail _ (.tail _ (.tail _ (.tail _ (.tail _ (.tail _ (.head _)))))))) | exact .tail _ (.tail _ (.tail _ (.tail _ (.tail _ (.tail _ (.tail _ (.tail _ (.tail _ (.head _)))))))))), Nat.le_of_ble_eq_true rfl⟩, ?_⟩)
          · repeat (first | exact trivial | refine ⟨⟨_, rfl, (by first | exact .of rfl | exact .lit rfl | exact .of (by first | ((exact congrArg (fun z => SV.v (Value.int .i64 z)) hw))) | exact .lit (by first | ((exact congrArg (fun z => SV.v (Value.int .i64 z)) hw)))), (by first | exact trivial | exact Nat.le_of_ble_eq_true rfl | exact small1 rfl)⟩, ?_⟩)
          · repeat (first | exact trivial | refine ⟨⟨_, rfl⟩, ?_⟩)
          · repeat (first | exact trivial | refine ⟨.inl ⟨_, rfl, (by first | rfl | ((exact congrArg (fun z => SV.v (Value.int .i64 z)) hw)))⟩, ?_⟩ | refine ⟨.inr ⟨Nat.le_of_ble_eq_true rfl, rfl, rfl, rfl, rfl⟩, ?_⟩)
      · have hge : xs.length ≤ k := by simpa using g2
        have heq : xs.map (·.m) = ys.map (·.m) := by rw [List.take_of_length_le (by simpa using hge), List.take_of_length_le (by simp; omega)] at he; exact he
        refine retw [] ⟨?_, rfl⟩ trivial rfl trivial (fun _ => rfl)
        simp [heq]

end Go.Proofs.YtchkcjeeknfchaaGreatDoor

namespace Go.Proofs.YtchkcjeeknfchaaGreatDoor

open Go Go.Sx Go.RowKit

def Once.small20 (m : Once) : Prop := m.waits.length ≤ 1048576

def szOnceM (m : Once) (left : Int) : Int := szStep m.waits.length left fun a0 => a0

theorem szOnceM_gen (m : Once) (l : Int) (hl : l ≤ 1048576) (h : ¬ szOnceM m l < 0) : m.small20 ∧ szOnceM m l ≤ l := by
  simp only [szOnceM, szStep, szN] at h ⊢
  simp only [Once.small20]
  omega

set_option maxRecDepth 100000 in
theorem szOnce_c (m : Once) (s0 : Sl) (left : Int) (w : World) (h : At w [slo s0 cInt 1 m.waits]) (h0 : -1 ≤ left) (h1 : left ≤ 1048576) :
    Calls Tryz.prog 57 #[onceV m s0, .int .i64 left] w (Ret w fun v L => v = .int .i64 (szOnceM m left) ∧ L = []) := by
  refine calls2 Tryz.func57 rfl tabOk w _ rfl _ rfl _ h ⟨rfl, rfl, trivial⟩ _ _ (by decide) ?_
  refine stop_call _ cl16 rfl rfl rfl rfl ⟨rfl, rfl⟩ (fun A w hW => szIntS_c s0 m.waits left w ⟨(by first | exact hW.rd 0 rfl | exact hW.rdOwn 0 rfl | exact hW.rd 1 rfl | exact hW.rdOwn 1 rfl | exact hW.rd 2 rfl | exact hW.rdOwn 2 rfl | exact hW.rd 3 rfl | exact hW.rdOwn 3 rfl | exact hW.rd 4 rfl | exact hW.rdOwn 4 rfl | exact hW.rd 5 rfl | exact hW.rdOwn 5 rfl | exact hW.rd 6 rfl | exact hW.rdOwn 6 rfl | exact hW.rd 7 rfl | exact hW.rdOwn 7 rfl | exact hW.rd 8 rfl | exact hW.rdOwn 8 rfl | exact hW.rd 9 rfl | exact hW.rdOwn 9 rfl | exact hW.rd 10 rfl | exact hW.rdOwn 10 rfl | exact hW.rd 11 rfl | exact hW.rdOwn 11 rfl | exact hW.rd 12 rfl | exact hW.rdOwn 12 rfl | exact hW.rd 13 rfl | exact hW.rdOwn 13 rfl | exact hW.rd 14 rfl | exact hW.rdOwn 14 rfl | exact hW.rd 15 rfl | exact hW.rdOwn 15 rfl | exact hW.rd 16 rfl | exact hW.rdOwn 16 rfl | exact hW.rd 17 rfl | exact hW.rdOwn 17 rfl | exact hW.rd 18 rfl | exact hW.rdOwn 18 rfl | exact hW.rd 19 rfl | exact hW.rdOwn 19 rfl | exact hW.rd 20 rfl | exact hW.rdOwn 20 rfl | exact hW.rd 21 rfl | exact hW.rdOwn 21 rfl | exact hW.rd 22 rfl | exact hW.rdOwn 22 rfl | exact hW.rd 23 rfl | exact hW.rdOwn 23 rfl), trivial⟩ h0 h1) ?_
  rintro v L ⟨rfl, rfl⟩
  refine CaseB.mk (fun g0 => ?_) (fun g0 => ?_)
  · have q : szN m.waits.length (left) < 0 := by simpa using g0
    refine retw [] ⟨?_, rfl⟩ trivial rfl trivial (fun _ => rfl)
    simp [szOnceM, szStep, q]
  have q0 : ¬ szN m.waits.length (left) < 0 := by simpa using g0
  refine retw [] ⟨?_, rfl⟩ trivial rfl trivial (fun _ => rfl)
  simp [szOnceM, szStep, q0]

set_option maxRecDepth 100000 in
theorem toOnce_c (m : Once) (s0 : Sl) (w : World) (h : At w [slo s0 cInt 1 m.waits]) (hb : m.small20) :
    Calls Tryz.prog 63 #[onceV m s0] w (Ret w fun v L => ∃ y0 : Sl, v = onceV m y0 ∧ L = [own y0 3 cInt 1 m.waits]) := by
  have b0 := hb
  unfold Once.small20 at b0
  refine calls1 Tryz.func63 rfl tabOk w _ rfl _ rfl _ h ⟨rfl, rfl, trivial⟩ _ (by decide) ?_
  refine stop_call _ cl24 rfl rfl rfl rfl ⟨rfl, rfl⟩ (fun A w hW => toIntS_c s0 m.waits w ⟨(by first | exact hW.rd 0 rfl | exact hW.rdOwn 0 rfl | exact hW.rd 1 rfl | exact hW.rdOwn 1 rfl | exact hW.rd 2 rfl | exact hW.rdOwn 2 rfl | exact hW.rd 3 rfl | exact hW.rdOwn 3 rfl | exact hW.rd 4 rfl | exact hW.rdOwn 4 rfl | exact hW.rd 5 rfl | exact hW.rdOwn 5 rfl | exact hW.rd 6 rfl | exact hW.rdOwn 6 rfl | exact hW.rd 7 rfl | exact hW.rdOwn 7 rfl | exact hW.rd 8 rfl | exact hW.rdOwn 8 rfl | exact hW.rd 9 rfl | exact hW.rdOwn 9 rfl | exact hW.rd 10 rfl | exact hW.rdOwn 10 rfl | exact hW.rd 11 rfl | exact hW.rdOwn 11 rfl | exact hW.rd 12 rfl | exact hW.rdOwn 12 rfl | exact hW.rd 13 rfl | exact hW.rdOwn 13 rfl | exact hW.rd 14 rfl | exact hW.rdOwn 14 rfl | exact hW.rd 15 rfl | exact hW.rdOwn 15 rfl | exact hW.rd 16 rfl | exact hW.rdOwn 16 rfl | exact hW.rd 17 rfl | exact hW.rdOwn 17 rfl | exact hW.rd 18 rfl | exact hW.rdOwn 18 rfl | exact hW.rd 19 rfl | exact hW.rdOwn 19 rfl | exact hW.rd 20 rfl | exact hW.rdOwn 20 rfl | exact hW.rd 21 rfl | exact hW.rdOwn 21 rfl | exact hW.rd 22 rfl | exact hW.rdOwn 22 rfl | exact hW.rd 23 rfl | exact hW.rdOwn 23 rfl), trivial⟩ b0) ?_
  rintro v L ⟨y0, rfl, rfl⟩
  exact retw [0] ⟨y0, rfl, rfl⟩ ⟨.inl ⟨_, rfl, rfl⟩, trivial⟩ rfl ⟨rfl, trivial⟩ (fun _ => rfl)

set_option maxRecDepth 100000 in
theorem eqOnce_c (m m2 : Once) (s0 u0 : Sl) (w : World) (h : At w [slo s0 cInt 1 m.waits, slo u0 cInt 1 m2.waits]) (hb : m.small20) (hb2 : m2.small20) :
    Calls Tryz.prog 73 #[onceV m s0, onceV m2 u0] w (Ret w fun v L => v = .bool (decide (m = m2)) ∧ L = []) := by
  have hx : ∀ {a b : Once}, a = b ↔ a.state = b.state ∧ a.owner = b.owner ∧ a.value = b.value ∧ a.waits = b.waits := fun {a b} => ⟨fun h => by subst h; exact ⟨rfl, rfl, rfl, rfl⟩, fun h => by cases a; cases b; simp_all⟩
  have b0 := hb
  unfold Once.small20 at b0
  have c0 := hb2
  unfold Once.small20 at c0
  refine calls2 Tryz.func73 rfl tabOk w _ rfl _ rfl _ h ⟨rfl, rfl, rfl, rfl, trivial⟩ _ _ (by decide) ?_
  refine CaseB.mk (fun h0 => ?_) (fun h0 => ?_)
  · have g : ¬ m = m2 := fun e => by subst e; simp at h0
    exact retw [] ⟨by simp [g], rfl⟩ trivial rfl trivial (fun _ => rfl)
  refine CaseB.mk (fun h1 => ?_) (fun h1 => ?_)
  · have g : ¬ m = m2 := fun e => by subst e; simp at h1
    exact retw [] ⟨by simp [g], rfl⟩ trivial rfl trivial (fun _ => rfl)
  refine CaseB.mk (fun h2 => ?_) (fun h2 => ?_)
  · have g : ¬ m = m2 := fun e => by subst e; simp at h2
    exact retw [] ⟨by simp [g], rfl⟩ trivial rfl trivial (fun _ => rfl)
  refine stop_call _ cl33 rfl rfl rfl rfl ⟨rfl, rfl⟩ (fun A w hW => eqIntS_c s0 u0 m.waits m2.waits w ⟨(by first | exact hW.rd 0 rfl | exact hW.rdOwn 0 rfl | exact hW.rd 1 rfl | exact hW.rdOwn 1 rfl | exact hW.rd 2 rfl | exact hW.rdOwn 2 rfl | exact hW.rd 3 rfl | exact hW.rdOwn 3 rfl | exact hW.rd 4 rfl | exact hW.rdOwn 4 rfl | exact hW.rd 5 rfl | exact hW.rdOwn 5 rfl | exact hW.rd 6 rfl | exact hW.rdOwn 6 rfl | exact hW.rd 7 rfl | exact hW.rdOwn 7 rfl | exact hW.rd 8 rfl | exact hW.rdOwn 8 rfl | exact hW.rd 9 rfl | exact hW.rdOwn 9 rfl | exact hW.rd 10 rfl | exact hW.rdOwn 10 rfl | exact hW.rd 11 rfl | exact hW.rdOwn 11 rfl | exact hW.rd 12 rfl | exact hW.rdOwn 12 rfl | exact hW.rd 13 rfl | exact hW.rdOwn 13 rfl | exact hW.rd 14 rfl | exact hW.rdOwn 14 rfl | exact hW.rd 15 rfl | exact hW.rdOwn 15 rfl | exact hW.rd 16 rfl | exact hW.rdOwn 16 rfl | exact hW.rd 17 rfl | exact hW.rdOwn 17 rfl | exact hW.rd 18 rfl | exact hW.rdOwn 18 rfl | exact hW.rd 19 rfl | exact hW.rdOwn 19 rfl | exact hW.rd 20 rfl | exact hW.rdOwn 20 rfl | exact hW.rd 21 rfl | exact hW.rdOwn 21 rfl | exact hW.rd 22 rfl | exact hW.rdOwn 22 rfl | exact hW.rd 23 rfl | exact hW.rdOwn 23 rfl), (by first | exact hW.rd 0 rfl | exact hW.rdOwn 0 rfl | exact hW.rd 1 rfl | exact hW.rdOwn 1 rfl | exact hW.rd 2 rfl | exact hW.rdOwn 2 rfl | exact hW.rd 3 rfl | exact hW.rdOwn 3 rfl | exact hW.rd 4 rfl | exact hW.rdOwn 4 rfl | exact hW.rd 5 rfl | exact hW.rdOwn 5 rfl | exact hW.rd 6 rfl | exact hW.rdOwn 6 rfl | exact hW.rd 7 rfl | exact hW.rdOwn 7 rfl | exact hW.rd 8 rfl | exact hW.rdOwn 8 rfl | exact hW.rd 9 rfl | exact hW.rdOwn 9 rfl | exact hW.rd 10 rfl | exact hW.rdOwn 10 rfl | exact hW.rd 11 rfl | exact hW.rdOwn 11 rfl | exact hW.rd 12 rfl | exact hW.rdOwn 12 rfl | exact hW.rd 13 rfl | exact hW.rdOwn 13 rfl | exact hW.rd 14 rfl | exact hW.rdOwn 14 rfl | exact hW.rd 15 rfl | exact hW.rdOwn 15 rfl | exact hW.rd 16 rfl | exact hW.rdOwn 16 rfl | exact hW.rd 17 rfl | exact hW.rdOwn 17 rfl | exact hW.rd 18 rfl | exact hW.rdOwn 18 rfl | exact hW.rd 19 rfl | exact hW.rdOwn 19 rfl | exact hW.rd 20 rfl | exact hW.rdOwn 20 rfl | exact hW.rd 21 rfl | exact hW.rdOwn 21 rfl | exact hW.rd 22 rfl | exact hW.rdOwn 22 rfl | exact hW.rd 23 rfl | exact hW.rdOwn 23 rfl), trivial⟩ (by omega) (by omega)) ?_
  rintro v L ⟨rfl, rfl⟩
  refine CaseB.mk (fun h3 => ?_) (fun h3 => ?_)
  · have g : ¬ m = m2 := fun e => by subst e; simp at h3
    exact retw [] ⟨by simp [g], rfl⟩ trivial rfl trivial (fun _ => rfl)
  have g : m = m2 := hx.2 ⟨by simpa using h0, by simpa using h1, by simpa using h2, by simpa using h3⟩
  exact retw [] ⟨by simp [g], rfl⟩ trivial rfl trivial (fun _ => rfl)

end Go.Proofs.YtchkcjeeknfchaaGreatDoor

namespace Go.Proofs.YtchkcjeeknfchaaGreatDoor

open Go Go.Sx Go.RowKit

set_option maxRecDepth 100000 in
theorem szOnceS_c (h : Sl) (xs : List OnceH) (left : Int) (w : World) (hh : At w [fR (oncesO h xs)]) (h0 : -1 ≤ left) (h1 : left ≤ 1048576) :
    Calls Tryz.prog 19 #[h.val xs.length, .int .i64 left] w (Ret w fun v L => v = .int .i64 (szAll szOnceM (xs.map (·.m)) left) ∧ L = []) := by
  have hrd := (Rd.ofR (nest_h (xs := xs))).p w hh.1.1
  obtain ⟨_, b1, b2, _⟩ := hrd
  unfold maxLen at b2
  have e : IntKind.i64.wrap (left - (xs.length : Int)) = left - xs.length := e_wrap (by omega) (by omega)
  refine calls2 Tryz.func19 rfl tabOk w _ rfl _ rfl _ hh ⟨rfl, rfl, trivial⟩ _ _ (by decide) ?_
  refine CaseB.mk (fun g => ?_) (fun g => ?_)
  · rw [e] at g
    have g2 : left - (xs.length : Int) < 0 := by simpa using g
    exact retw [] ⟨by simp [szAll, g2], rfl⟩ trivial rfl trivial (fun _ => rfl)
  · rw [e] at g
    have g2 : ¬ left - (xs.length : Int) < 0 := by simpa using g
    refine LoopW.mk ⟨{ p : Nat × Int // p.1 ≤ xs.length ∧ szList szOnceM ((xs.map (·.m)).drop p.1) p.2 = szAll szOnceM (xs.map (·.m)) left ∧ -1 ≤ p.2 ∧ p.2 ≤ 1048576 },
      fun p => .mk [(0, .v (h.val xs.length)), (1, .v (.int .i64 p.1.2)), (5, .v (.int .i64 (p.1.1 : Int)))] 0 0 [] [] [fR (oncesO h xs)],
      fun p => xs.length - p.1.1, ⟨(0, left - xs.length), Nat.zero_le _, by simp [szAll, g2], by omega, by omega⟩, ?_, ?_⟩
    · refine weak_mk [0] ?_ ?_ ?_ ?_ ?_ rfl rfl
      · repeat (first | exact trivial | refine ⟨⟨_, rfl, (by first | exact .of rfl | exact .lit rfl | exact .of (by first | ((simp only [e]))) | exact .lit (by first | ((simp only [e])))), (by first | exact trivial | exact Nat.le_of_ble_eq_true rfl | exact small1 rfl)⟩, ?_⟩)
      · repeat (first | exact trivial | refine ⟨⟨(by first | exact .head _ | exact .tail _ (.head _) | exact .tail _ (.tail _ (.head _)) | exact .tail _ (.tail _ (.tail _ (.head _))) | exact .tail _ (.tail _ (.tail _ (.tail _ (.head _)))) | exact .tail _ (.tail _ (.tail _ (.tail _ (.tail _ (.head _))))) | exact .tail _ (.tail _ (.tail _ (.tail _ (.tail _ (.tail _ (.head _)))))) | exact .tail _ (.tail _ (.tail _ (.tail _ (.tail _ (.tail _ (.tail _ (.head _))))))) | exact .tail _ (.tail _ (.tail _ (.tail _ (.tail _ (.tail _ (.tail _ (.tail _ (.head _)))))))) | exact .tail _ (.tail _ (.tail _ (.tail _ (.tail _ (.tail _ (.tail _ (.tail _ (.tail _ (.head _)))))))))), Nat.le_of_ble_eq_true rfl⟩, ?_⟩)
      · repeat (first | exact trivial | refine ⟨⟨_, rfl, (by first | exact .of rfl | exact .lit rfl | exact .of (by first | ((simp only [e]))) | exact .lit (by first | ((simp only [e])))), (by first | exact trivial | exact Nat.le_of_ble_eq_true rfl | exact small1 rfl)⟩, ?_⟩)
      · repeat (first | exact trivial | refine ⟨⟨_, rfl⟩, ?_⟩)
      · repeat (first | exact trivial | refine ⟨.inl ⟨_, rfl, (by first | rfl | ((simp only [e])))⟩, ?_⟩ | refine ⟨.inr ⟨Nat.le_of_ble_eq_true rfl, rfl, rfl, rfl, rfl⟩, ?_⟩)
    · rintro ⟨⟨k, l⟩, hk, hl, hl0, hl1⟩
      simp only at hk hl hl0 hl1
      refine CaseB.mk (fun g3 => ?_) (fun g3 => ?_)
      · have hlt : k < xs.length := by simpa using g3
        rw [List.drop_eq_getElem_cons (by simpa using hlt)] at hl
        simp only [szList, List.getElem_map] at hl
        refine stop_idx encOnceH tabOk rfl rfl rfl rfl rfl ⟨rfl, rfl⟩ (rdVia 0 rfl (.ofR nest_h)) k rfl (by first | omega | (simp; done) | (simp; omega) | (unfold maxLen; omega) | (unfold maxLen; simp; done) | (unfold maxLen; simp; omega)) (fun ad => ?_)
        refine stop_call _ cl57 rfl rfl rfl rfl ⟨rfl, rfl⟩ (fun A w hW => szOnce_c _ _ _ w ⟨hW.get 0 rfl (.ofR (oncesO_0 h xs k hlt)), trivial⟩ hl0 hl1) ?_
        rintro v L ⟨rfl, rfl⟩
        refine CaseB.mk (fun g4 => ?_) (fun g4 => ?_)
        · have q : szOnceM xs[k].m l < 0 := by simpa using g4
          rw [if_pos q] at hl
          exact retw [] ⟨by rw [← hl], rfl⟩ trivial rfl trivial (fun _ => rfl)
        · have q : ¬ szOnceM xs[k].m l < 0 := by simpa using g4
          rw [if_neg q] at hl
          have q2 := (szOnceM_gen xs[k].m l hl1 q).2
          have hw := e_succ k _ hlt (by omega)
          refine ⟨⟨(k + 1, szOnceM xs[k].m l), hlt, hl, by omega, by omega⟩, ?_, by simp only; omega⟩
          refine weak_mk [0] ?_ ?_ ?_ ?_ ?_ rfl rfl
          · repeat (first | exact trivial | refine ⟨⟨_, rfl, (by first | exact .of rfl | exact .lit rfl | exact .of (by first | ((exact congrArg (fun z => SV.v (Value.int .i64 z)) hw))) | exact .lit (by first | ((exact congrArg (fun z => SV.v (Value.int .i64 z)) hw)))), (by first | exact trivial | exact Nat.le_of_ble_eq_true rfl | exact small1 rfl)⟩, ?_⟩)
          · repeat (first | exact trivial | refine ⟨⟨(by first | exact .head _ | exact .tail _ (.head _) | exact .tail _ (.tail _ (.head _)) | exact .tail _ (.tail _ (.tail _ (.head _))) | exact .tail _ (.tail _ (.tail _ (.tail _ (.head _)))) | exact .tail _ (.tail _ (.tail _ (.tail _ (.tail _ (.head _))))) | exact .tail _ (.tail _ (.tail _ (.tail _ (.tail _ (.tail _ (.head _)))))) | exact .tail _ (.tail _ (.tail _ (.tail _ (.tail _ (.tail _ (.tail _ (.head _))))))) | exact .tail _ (.tail _ (.tail _ (.tail _ (.tail _ (.tail _ (.tail _ (.tail _ (.head _)))))))) | exact .tail _ (.tail _ (.tail _ (.tail _ (.tail _ (.tail _ (.tail _ (.tail _ (.tail _ (.head _)))))))))), Nat.le_of_ble_eq_true rfl⟩, ?_⟩)
          · repeat (first | exact trivial | refine ⟨⟨_, rfl, (by first | exact .of rfl | exact .lit rfl | exact .of (by first | ((exact congrArg (fun z => SV.v (Value.int .i64 z)) hw))) | exact .lit (by first | ((exact congrArg (fun z => SV.v (Value.int .i64 z)) hw)))), (by first | exact trivial | exact Nat.le_of_ble_eq_true rfl | exact small1 rfl)⟩, ?_⟩)
          · repeat (first | exact trivial | refine ⟨⟨_, rfl⟩, ?_⟩)
          · repeat (first | exact trivial | refine ⟨.inl ⟨_, rfl, (by first | rfl | ((exact congrArg (fun z => SV.v (Value.int .i64 z)) hw)))⟩, ?_⟩ | refine ⟨.inr ⟨Nat.le_of_ble_eq_true rfl, rfl, rfl, rfl, rfl⟩, ?_⟩)
      · have hge : xs.length ≤ k := by simpa using g3
        rw [List.drop_eq_nil_of_le (by simpa using hge)] at hl
        exact retw [] ⟨congrArg (Value.int .i64) hl, rfl⟩ trivial rfl trivial (fun _ => rfl)

def OnceH0 : OnceH := ⟨⟨0, 0, 0, []⟩, ⟨none, 0⟩⟩

set_option maxRecDepth 100000 in
theorem toOnceS_c (h : Sl) (xs : List OnceH) (w : World) (hh : At w [fR (oncesO h xs)]) (hl : xs.length ≤ 1048576) (hb : ∀ x ∈ xs, Once.small20 x.m) :
    Calls Tryz.prog 27 #[h.val xs.length] w (Ret w fun v L => ∃ (y : Sl) (ys : List OnceH), v = y.val ys.length ∧ ys.map (·.m) = xs.map (·.m) ∧ L = [fO (oncesO y ys)]) := by
  refine calls1 Tryz.func27 rfl tabOk w _ rfl _ rfl _ hh ⟨rfl, rfl, trivial⟩ _ (by decide) ?_
  refine stop_make encOnceH OnceH0 tabOk rfl rfl rfl rfl rfl (by decide) ⟨rfl, rfl⟩ xs.length rfl (by first | omega | (simp; done) | (simp; omega) | (unfold maxLen; omega) | (unfold maxLen; simp; done) | (unfold maxLen; simp; omega)) (by first | omega | (simp; done) | (simp; omega) | (unfold maxLen; omega) | (unfold maxLen; simp; done) | (unfold maxLen; simp; omega)) (fun y => ?_)
  refine LoopW.mk ⟨{ p : Nat × List OnceH // p.1 ≤ xs.length ∧ p.2.map (·.m) = (xs.map (·.m)).take p.1 },
    fun p => .mk [(0, .v (h.val xs.length)), (3, .v (y.val (p.1.2 ++ List.replicate (xs.length - p.1.1) OnceH0).length)), (4, .v (.int .i64 (p.1.1 : Int)))] 0 0 [] [] [own y 98 cOnceH 4 (p.1.2 ++ List.replicate (xs.length - p.1.1) OnceH0), fO (p.1.2.flatMap onceO), fR (oncesO h xs)],
    fun p => xs.length - p.1.1, ⟨(0, []), Nat.zero_le _, by simp⟩, ?_, ?_⟩
  · refine weak_shift (.joinO [] (Gs := []) trivial rfl (.refl _)) ?_
    refine weak_mk [1, 0, 2] ?_ ?_ ?_ ?_ ?_ rfl rfl
    · repeat (first | exact trivial | refine ⟨⟨_, rfl, (by first | exact .of rfl | exact .lit rfl | exact .of (by first | ((simp))) | exact .lit (by first | ((simp)))), (by first | exact trivial | exact Nat.le_of_ble_eq_true rfl | exact small1 rfl)⟩, ?_⟩)
    · repeat (first | exact trivial | refine ⟨⟨(by first | exact .head _ | exact .tail _ (.head _) | exact .tail _ (.tail _ (.head _)) | exact .tail _ (.tail _ (.tail _ (.head _))) | exact .tail _ (.tail _ (.tail _ (.tail _ (.head _)))) | exact .tail _ (.tail _ (.tail _ (.tail _ (.tail _ (.head _))))) | exact .tail _ (.tail _ (.tail _ (.tail _ (.tail _ (.tail _ (.head _)))))) | exact .tail _ (.tail _ (.tail _ (.tail _ (.tail _ (.tail _ (.tail _ (.head _))))))) | exact .tail _ (.tail _ (.tail _ (.tail _ (.tail _ (.tail _ (.tail _ (.tail _ (.head _)))))))) | exact .tail _ (.tail _ (.tail _ (.tail _ (.tail _ (.tail _ (.tail _ (.tail _ (.tail _ (.head _)))))))))), Nat.le_of_ble_eq_true rfl⟩, ?_⟩)
    · repeat (first | exact trivial | refine ⟨⟨_, rfl, (by first | exact .of rfl | exact .lit rfl | exact .of (by first | ((simp))) | exact .lit (by first | ((simp)))), (by first | exact trivial | exact Nat.le_of_ble_eq_true rfl | exact small1 rfl)⟩, ?_⟩)
    · repeat (first | exact trivial | refine ⟨⟨_, rfl⟩, ?_⟩)
    · repeat (first | exact trivial | refine ⟨.inl ⟨_, rfl, (by first | rfl | ((simp)))⟩, ?_⟩ | refine ⟨.inr ⟨Nat.le_of_ble_eq_true rfl, rfl, rfl, rfl, rfl⟩, ?_⟩)
  · rintro ⟨⟨k, ys⟩, hk, hy⟩
    simp only at hk hy
    have hyl : ys.length = k := by have := congrArg List.length hy; simp at this; omega
    refine CaseB.mk (fun g => ?_) (fun g => ?_)
    · have hlt : k < xs.length := by simpa using g
      have hlt2 : k < (ys ++ List.replicate (xs.length - k) OnceH0).length := by simp; omega
      refine stop_idx encOnceH tabOk rfl rfl rfl rfl rfl ⟨rfl, rfl⟩ (rdVia 2 rfl (.ofR nest_h)) k rfl (by first | omega | (simp; done) | (simp; omega) | (unfold maxLen; omega) | (unfold maxLen; simp; done) | (unfold maxLen; simp; omega)) (fun ad => ?_)
      refine stop_call _ cl63 rfl rfl rfl rfl ⟨rfl, rfl⟩ (fun A w hW => toOnce_c _ _ w ⟨hW.get 2 rfl (.ofR (oncesO_0 h xs k hlt)), trivial⟩ (hb _ (List.getElem_mem hlt))) ?_
      rintro v L ⟨y0, rfl, rfl⟩
      generalize hx : (⟨xs[k].m, y0⟩ : OnceH) = x
      have hxm : x.m = xs[k].m := by rw [← hx]
      have hT : (ys ++ List.replicate (xs.length - k) OnceH0).set k x = (ys ++ [x]) ++ List.replicate (xs.length - (k + 1)) OnceH0 := by
        rw [List.set_append_right _ _ (by omega), show k - ys.length = 0 by omega, show xs.length - k = (xs.length - (k + 1)) + 1 by omega, List.replicate_succ, List.append_assoc]
        rfl
      generalize hq : (ys ++ List.replicate (xs.length - k) OnceH0) = Q at hT hlt2
      refine stop_idxW encOnceH 1 tabOk rfl rfl rfl rfl rfl ⟨rfl, rfl⟩ rfl (by first | rfl | (simp; done)) k rfl hlt2 (fun g1 hg1 => ?_)
      refine stop_storeW encOnceH 1 tabOk rfl rfl rfl rfl rfl rfl rfl rfl hg1 k 0 x rfl hlt2 rfl (cOnceH x) (fun _ => by rw [← hx]; rfl) (by rw [List.drop_eq_nil_of_le (by exact Nat.le_refl _)]; simp) ?_
      have hw := e_succ k _ hlt (by omega)
      refine ⟨⟨(k + 1, ys ++ [x]), hlt, by rw [List.map_append]; exact map_take_succ hlt hy hxm⟩, ?_, by simp only; omega⟩
      refine weak_shift (.joinO [1, 2] (Gs := [[_], _]) ⟨.inl ⟨_, rfl, .own⟩, .inl ⟨_, rfl, .o⟩, trivial⟩ rfl (G := (ys ++ [x]).flatMap onceO) (by subst hx; rw [List.flatMap_append]; exact (List.Perm.of_eq (by simp [onceO])).trans List.perm_append_comm)) ?_
      refine weak_mk [1, 0, 2] ?_ ?_ ?_ ?_ ?_ rfl rfl
      · repeat (first | exact trivial | refine ⟨⟨_, rfl, (by first | exact .of rfl | exact .lit rfl | exact .of (by first | ((first | (rw [hT]; done) | (simp only; done) | exact congrArg (fun z => SV.v (Value.int .i64 z)) hw | (rw [← hT]; simp)))) | exact .lit (by first | ((first | (rw [hT]; done) | (simp only [hT]; done) | exact congrArg (fun z => SV.v (Value.int .i64 z)) hw | (rw [← hT]; simp))))), (by first | exact trivial | exact Nat.le_of_ble_eq_true rfl | exact small1 rfl)⟩, ?_⟩)
      · repeat (first | exact trivial | refine ⟨⟨(by first | exact .head _ | exact .tail _ (.head _) | exact .tail _ (.tail _ (.head _)) | exact .tail _ (.tail _ (.tail _ (.head _))) | exact .tail _ (.tail _ (.tail _ (.tail _ (.head _)))) | exact .tail _ (.tail _ (.tail _ (.tail _ (.tail _ (.head _))))) | exact .tail _ (.tail _ (.tail _ (.tail _ (.tail _ (.tail _ (.head _)))))) | exact .tail _ (.tail _ (.tail _ (.tail _ (.tail _ (.tail _ (.tail _ (.head _))))))) | exact .tail _ (.tail _ (.tail _ (.tail _ (.tail _ (.tail _ (.tail _ (.tail _ (.head _)))))))) | exact .tail _ (.tail _ (.tail _ (.tail _ (.tail _ (.tail _ (.tail _ (.tail _ (.tail _ (.head _)))))))))), Nat.le_of_ble_eq_true rfl⟩, ?_⟩)
      · repeat (first | exact trivial | refine ⟨⟨_, rfl, (by first | exact .of rfl | exact .lit rfl | exact .of (by first | ((first | (rw [hT]; done) | (simp only [hT]; done) | exact congrArg (fun z => SV.v (Value.int .i64 z)) hw | (rw [← hT]; simp)))) | exact .lit (by first | ((first | (rw [hT]; done) | (simp only [hT]; done) | exact congrArg (fun z => SV.v (Value.int .i64 z)) hw | (rw [← hT]; simp))))), (by first | exact trivial | exact Nat.le_of_ble_eq_true rfl | exact small1 rfl)⟩, ?_⟩)
      · repeat (first | exact trivial | refine ⟨⟨_, rfl⟩, ?_⟩)
      · repeat (first | exact trivial | refine ⟨.inl ⟨_, rfl, (by first | rfl | ((first | (rw [hT]; done) | (simp only [hT]; done) | exact congrArg (fun z => SV.v (Value.int .i64 z)) hw | (rw [← hT]; simp))))⟩, ?_⟩ | refine ⟨.inr ⟨Nat.le_of_ble_eq_true rfl, rfl, rfl, rfl, rfl⟩, ?_⟩)
    · have hge : xs.length ≤ k := by simpa using g
      have hT : ys ++ List.replicate (xs.length - k) OnceH0 = ys := by rw [show xs.length - k = 0 by omega]; simp
      simp only [hT]
      refine ret_shift (.joinO [0, 1] (Gs := [[_], _]) ⟨.inl ⟨_, rfl, .own⟩, .inl ⟨_, rfl, .o⟩, trivial⟩ rfl (G := oncesO y ys) (.of_eq (by simp [oncesO, nestO]))) ?_
      exact retw [0] ⟨y, ys, rfl, by rw [hy, List.take_of_length_le (by simpa using hge)], rfl⟩ ⟨.inl ⟨_, rfl, rfl⟩, trivial⟩ rfl ⟨rfl, trivial⟩ (fun _ => rfl)

set_option maxRecDepth 100000 in
theorem eqOnceS_c (h h2 : Sl) (xs ys : List OnceH) (w : World) (hh : At w [fR (oncesO h xs), fR (oncesO h2 ys)]) (hl : xs.length ≤ 1048576) (hb : ∀ x ∈ xs, Once.small20 x.m) (hb2 : ∀ x ∈ ys, Once.small20 x.m) :
    Calls Tryz.prog 36 #[h.val xs.length, h2.val ys.length] w (Ret w fun v L => v = .bool (decide (xs.map (·.m) = ys.map (·.m))) ∧ L = []) := by
  refine calls2 Tryz.func36 rfl tabOk w _ rfl _ rfl _ hh ⟨rfl, rfl, rfl, rfl, trivial⟩ _ _ (by decide) ?_
  refine CaseB.mk (fun g => ?_) (fun g => ?_)
  · have hne : xs.map (·.m) ≠ ys.map (·.m) := fun e => by
      have := congrArg List.length e
      simp at this g
      omega
    refine retw [] ⟨?_, rfl⟩ trivial rfl trivial (fun _ => rfl)
    simp [hne]
  · have hll : xs.length = ys.length := by simp at g; omega
    refine LoopW.mk ⟨{ k : Nat // k ≤ xs.length ∧ (xs.map (·.m)).take k = (ys.map (·.m)).take k },
      fun p => .mk [(0, .v (h.val xs.length)), (1, .v (h2.val ys.length)), (5, .v (.int .i64 p.1))] 0 0 [] [] [fR (oncesO h xs), fR (oncesO h2 ys)],
      fun p => xs.length - p.1, ⟨0, Nat.zero_le _, rfl⟩, ?_, ?_⟩
    · refine weak_mk [0, 1] ?_ ?_ ?_ ?_ ?_ rfl rfl
      · repeat (first | exact trivial | refine ⟨⟨_, rfl, (by first | exact .of rfl | exact .lit rfl | exact .of (by first | (rfl)) | exact .lit (by first | (rfl))), (by first | exact trivial | exact Nat.le_of_ble_eq_true rfl | exact small1 rfl)⟩, ?_⟩)
      · repeat (first | exact trivial | refine ⟨⟨(by first | exact .head _ | exact .tail _ (.head _) | exact .tail _ (.tail _ (.head _)) | exact .tail _ (.tail _ (.tail _ (.head _))) | exact .tail _ (.tail _ (.tail _ (.tail _ (.head _)))) | exact .tail _ (.tail _ (.tail _ (.tail _ (.tail _ (.head _))))) | exact .tail _ (.tail _ (.tail _ (.tail _ (.tail _ (.tail _ (.head _)))))) | exact .tail _ (.tail _ (.tail _ (.tail _ (.tail _ (.tail _ (.tail _ (.head _))))))) | exact .tail _ (.tail _ (.tail _ (.tail _ (.tail _ (.tail _ (.tail _ (.tail _ (.head _)))))))) | exact .tail _ (.tail _ (.tail _ (.tail _ (.tail _ (.tail _ (.tail _ (.tail _ (.tail _ (.head _)))))))))), Nat.le_of_ble_eq_true rfl⟩, ?_⟩)
      · repeat (first | exact trivial | refine ⟨⟨_, rfl, (by first | exact .of rfl | exact .lit rfl | exact .of (by first | (rfl)) | exact .lit (by first | (rfl))), (by first | exact trivial | exact Nat.le_of_ble_eq_true rfl | exact small1 rfl)⟩, ?_⟩)
      · repeat (first | exact trivial | refine ⟨⟨_, rfl⟩, ?_⟩)
      · repeat (first | exact trivial | refine ⟨.inl ⟨_, rfl, (by first | rfl | (rfl))⟩, ?_⟩ | refine ⟨.inr ⟨Nat.le_of_ble_eq_true rfl, rfl, rfl, rfl, rfl⟩, ?_⟩)
    · rintro ⟨k, hk, he⟩
      refine CaseB.mk (fun g2 => ?_) (fun g2 => ?_)
      · have hlt : k < xs.length := by simpa using g2
        have hlt2 : k < ys.length := by omega
        obtain ⟨q1, q2⟩ := take_eq_succ he (by simpa using hlt) (by simpa using hlt2)
        simp only [List.getElem_map] at q1 q2
        refine draw_start tabOk (by kernel_rfl) (by kernel_rfl) (by kernel_rfl) 200 [] [0, 1] [_, _] trivial trivial ⟨rfl, rfl, trivial⟩ rfl ?_
        refine d_idx (ti := tiOf tab) encOnceH tabOk rfl rfl rfl rfl rfl ⟨rfl, rfl⟩ (rdVia 0 rfl (.ofR nest_h)) k rfl (by first | omega | (simp; done) | (simp; omega) | (unfold maxLen; omega) | (unfold maxLen; simp; done) | (unfold maxLen; simp; omega)) (fun ad => ?_)
        refine d_idx (ti := tiOf tab) encOnceH tabOk rfl rfl rfl rfl rfl ⟨rfl, rfl⟩ (rdVia 1 rfl (.ofR nest_h)) k rfl (by first | omega | (simp; done) | (simp; omega) | (unfold maxLen; omega) | (unfold maxLen; simp; done) | (unfold maxLen; simp; omega)) (fun ad2 => ?_)
        refine d_call _ cl73 rfl rfl rfl rfl ⟨rfl, rfl⟩ (fun A w hW => eqOnce_c _ _ _ _ w ⟨hW.get 0 rfl (.ofR (oncesO_0 h xs k hlt)), hW.get 1 rfl (.ofR (oncesO_0 h2 ys k hlt2)), trivial⟩ (hb _ (List.getElem_mem hlt)) (hb2 _ (List.getElem_mem hlt2))) ?_
        rintro v L ⟨rfl, rfl⟩
        refine CaseB.mk (fun g3 => ?_) (fun g3 => ?_)
        · have hne := q2 (by simpa using g3)
          refine retw [] ⟨?_, rfl⟩ trivial rfl trivial (fun _ => rfl)
          simp [hne]
        · have heq := q1 (by simpa using g3)
          have hw := e_succ k _ hlt (by omega)
          refine ⟨⟨k + 1, by omega, heq⟩, ?_, by simp; omega⟩
          refine weak_mk [0, 1] ?_ ?_ ?_ ?_ ?_ rfl rfl
          · repeat (first | exact trivial | refine ⟨⟨_, rfl, (by first | exact .of rfl | exact .lit rfl | exact .of (by first | ((exact congrArg (fun z => SV.v (Value.int .i64 z)) hw))) | exact .lit (by first | ((exact congrArg (fun z => SV.v (Value.int .i64 z)) hw)))), (by first | exact trivial | exact Nat.le_of_ble_eq_true rfl | exact small1 rfl)⟩, ?_⟩)
          · repeat (first | exact trivial | refine ⟨⟨(by first | exact .head _ | exact .tail _ (.head _) | exact .tail _ (.tail _ (.head _)) | exact .tail _ (.tail _ (.tail _ (.head _))) | exact .tail _ (.tail _ (.tail _ (.tail _ (.head _)))) | exact .tail _ (.tail _ (.tail _ (.tail _ (.tail _ (.head _))))) | exact .tail _ (.tail _ (.tail _ (.tail _ (.tail _ (.tail _ (.head _)))))) | exact .tail _ (.tail _ (.tail _ (.tail _ (.tail _ (.tail _ (.tail _ (.head _))))))) | exact .tail _ (.tail _ (.tail _ (.tail _ (.tail _ (.tail _ (.tail _ (.tail _ (.head _)))))))) | exact .tail _ (.tail _ (.tail _ (.tail _ (.tail _ (.tail _ (.tail _ (.tail _ (.tail _ (.head _)))))))))), Nat.le_of_ble_eq_true rfl⟩, ?_⟩)
          · repeat (first | exact trivial | refine ⟨⟨_, rfl, (by first | exact .of rfl | exact .lit rfl | exact .of (by first | ((exact congrArg (fun z => SV.v (Value.int .i64 z)) hw))) | exact .lit (by first | ((exact congrArg (fun z => SV.v (Value.int .i64 z)) hw)))), (by first | exact trivial | exact Nat.le_of_ble_eq_true rfl | exact small1 rfl)⟩, ?_⟩)
          · repeat (first | exact trivial | refine ⟨⟨_, rfl⟩, ?_⟩)
          · repeat (first | exact trivial | refine ⟨.inl ⟨_, rfl, (by first | rfl | ((exact congrArg (fun z => SV.v (Value.int .i64 z)) hw)))⟩, ?_⟩ | refine ⟨.inr ⟨Nat.le_of_ble_eq_true rfl, rfl, rfl, rfl, rfl⟩, ?_⟩)
      · have hge : xs.length ≤ k := by simpa using g2
        have heq : xs.map (·.m) = ys.map (·.m) := by rw [List.take_of_length_le (by simpa using hge), List.take_of_length_le (by simp; omega)] at he; exact he
        refine retw [] ⟨?_, rfl⟩ trivial rfl trivial (fun _ => rfl)
        simp [heq]

end Go.Proofs.YtchkcjeeknfchaaGreatDoor

namespace Go.Proofs.YtchkcjeeknfchaaGreatDoor

open Go Go.Sx Go.RowKit

def Group.small20 (m : Group) : Prop := m.waits.length ≤ 1048576

def szGroupM (m : Group) (left : Int) : Int := szStep m.waits.length left fun a0 => a0

theorem szGroupM_gen (m : Group) (l : Int) (hl : l ≤ 1048576) (h : ¬ szGroupM m l < 0) : m.small20 ∧ szGroupM m l ≤ l := by
  simp only [szGroupM, szStep, szN] at h ⊢
  simp only [Group.small20]
  omega

set_option maxRecDepth 100000 in
theorem szGroup_c (m : Group) (s0 : Sl) (left : Int) (w : World) (h : At w [slo s0 cInt 1 m.waits]) (h0 : -1 ≤ left) (h1 : left ≤ 1048576) :
    Calls Tryz.prog 58 #[groupV m s0, .int .i64 left] w (Ret w fun v L => v = .int .i64 (szGroupM m left) ∧ L = []) := by
  refine calls2 Tryz.func58 rfl tabOk w _ rfl _ rfl _ h ⟨rfl, rfl, trivial⟩ _ _ (by decide) ?_
  refine stop_call _ cl16 rfl rfl rfl rfl ⟨rfl, rfl⟩ (fun A w hW => szIntS_c s0 m.waits left w ⟨(by first | exact hW.rd 0 rfl | exact hW.rdOwn 0 rfl | exact hW.rd 1 rfl | exact hW.rdOwn 1 rfl | exact hW.rd 2 rfl | exact hW.rdOwn 2 rfl | exact hW.rd 3 rfl | exact hW.rdOwn 3 rfl | exact hW.rd 4 rfl | exact hW.rdOwn 4 rfl | exact hW.rd 5 rfl | exact hW.rdOwn 5 rfl | exact hW.rd 6 rfl | exact hW.rdOwn 6 rfl | exact hW.rd 7 rfl | exact hW.rdOwn 7 rfl | exact hW.rd 8 rfl | exact hW.rdOwn 8 rfl | exact hW.rd 9 rfl | exact hW.rdOwn 9 rfl | exact hW.rd 10 rfl | exact hW.rdOwn 10 rfl | exact hW.rd 11 rfl | exact hW.rdOwn 11 rfl | exact hW.rd 12 rfl | exact hW.rdOwn 12 rfl | exact hW.rd 13 rfl | exact hW.rdOwn 13 rfl | exact hW.rd 14 rfl | exact hW.rdOwn 14 rfl | exact hW.rd 15 rfl | exact hW.rdOwn 15 rfl | exact hW.rd 16 rfl | exact hW.rdOwn 16 rfl | exact hW.rd 17 rfl | exact hW.rdOwn 17 rfl | exact hW.rd 18 rfl | exact hW.rdOwn 18 rfl | exact hW.rd 19 rfl | exact hW.rdOwn 19 rfl | exact hW.rd 20 rfl | exact hW.rdOwn 20 rfl | exact hW.rd 21 rfl | exact hW.rdOwn 21 rfl | exact hW.rd 22 rfl | exact hW.rdOwn 22 rfl | exact hW.rd 23 rfl | exact hW.rdOwn 23 rfl), trivial⟩ h0 h1) ?_
  rintro v L ⟨rfl, rfl⟩
  refine CaseB.mk (fun g0 => ?_) (fun g0 => ?_)
  · have q : szN m.waits.length (left) < 0 := by simpa using g0
    refine retw [] ⟨?_, rfl⟩ trivial rfl trivial (fun _ => rfl)
    simp [szGroupM, szStep, q]
  have q0 : ¬ szN m.waits.length (left) < 0 := by simpa using g0
  refine retw [] ⟨?_, rfl⟩ trivial rfl trivial (fun _ => rfl)
  simp [szGroupM, szStep, q0]

set_option maxRecDepth 100000 in
theorem toGroup_c (m : Group) (s0 : Sl) (w : World) (h : At w [slo s0 cInt 1 m.waits]) (hb : m.small20) :
    Calls Tryz.prog 64 #[groupV m s0] w (Ret w fun v L => ∃ y0 : Sl, v = groupV m y0 ∧ L = [own y0 3 cInt 1 m.waits]) := by
  have b0 := hb
  unfold Group.small20 at b0
  refine calls1 Tryz.func64 rfl tabOk w _ rfl _ rfl _ h ⟨rfl, rfl, trivial⟩ _ (by decide) ?_
  refine stop_call _ cl24 rfl rfl rfl rfl ⟨rfl, rfl⟩ (fun A w hW => toIntS_c s0 m.waits w ⟨(by first | exact hW.rd 0 rfl | exact hW.rdOwn 0 rfl | exact hW.rd 1 rfl | exact hW.rdOwn 1 rfl | exact hW.rd 2 rfl | exact hW.rdOwn 2 rfl | exact hW.rd 3 rfl | exact hW.rdOwn 3 rfl | exact hW.rd 4 rfl | exact hW.rdOwn 4 rfl | exact hW.rd 5 rfl | exact hW.rdOwn 5 rfl | exact hW.rd 6 rfl | exact hW.rdOwn 6 rfl | exact hW.rd 7 rfl | exact hW.rdOwn 7 rfl | exact hW.rd 8 rfl | exact hW.rdOwn 8 rfl | exact hW.rd 9 rfl | exact hW.rdOwn 9 rfl | exact hW.rd 10 rfl | exact hW.rdOwn 10 rfl | exact hW.rd 11 rfl | exact hW.rdOwn 11 rfl | exact hW.rd 12 rfl | exact hW.rdOwn 12 rfl | exact hW.rd 13 rfl | exact hW.rdOwn 13 rfl | exact hW.rd 14 rfl | exact hW.rdOwn 14 rfl | exact hW.rd 15 rfl | exact hW.rdOwn 15 rfl | exact hW.rd 16 rfl | exact hW.rdOwn 16 rfl | exact hW.rd 17 rfl | exact hW.rdOwn 17 rfl | exact hW.rd 18 rfl | exact hW.rdOwn 18 rfl | exact hW.rd 19 rfl | exact hW.rdOwn 19 rfl | exact hW.rd 20 rfl | exact hW.rdOwn 20 rfl | exact hW.rd 21 rfl | exact hW.rdOwn 21 rfl | exact hW.rd 22 rfl | exact hW.rdOwn 22 rfl | exact hW.rd 23 rfl | exact hW.rdOwn 23 rfl), trivial⟩ b0) ?_
  rintro v L ⟨y0, rfl, rfl⟩
  exact retw [0] ⟨y0, rfl, rfl⟩ ⟨.inl ⟨_, rfl, rfl⟩, trivial⟩ rfl ⟨rfl, trivial⟩ (fun _ => rfl)

set_option maxRecDepth 100000 in
theorem eqGroup_c (m m2 : Group) (s0 u0 : Sl) (w : World) (h : At w [slo s0 cInt 1 m.waits, slo u0 cInt 1 m2.waits]) (hb : m.small20) (hb2 : m2.small20) :
    Calls Tryz.prog 74 #[groupV m s0, groupV m2 u0] w (Ret w fun v L => v = .bool (decide (m = m2)) ∧ L = []) := by
  have hx : ∀ {a b : Group}, a = b ↔ a.count = b.count ∧ a.waits = b.waits := fun {a b} => ⟨fun h => by subst h; exact ⟨rfl, rfl⟩, fun h => by cases a; cases b; simp_all⟩
  have b0 := hb
  unfold Group.small20 at b0
  have c0 := hb2
  unfold Group.small20 at c0
  refine calls2 Tryz.func74 rfl tabOk w _ rfl _ rfl _ h ⟨rfl, rfl, rfl, rfl, trivial⟩ _ _ (by decide) ?_
  refine CaseB.mk (fun h0 => ?_) (fun h0 => ?_)
  · have g : ¬ m = m2 := fun e => by subst e; simp at h0
    exact retw [] ⟨by simp [g], rfl⟩ trivial rfl trivial (fun _ => rfl)
  refine stop_call _ cl33 rfl rfl rfl rfl ⟨rfl, rfl⟩ (fun A w hW => eqIntS_c s0 u0 m.waits m2.waits w ⟨(by first | exact hW.rd 0 rfl | exact hW.rdOwn 0 rfl | exact hW.rd 1 rfl | exact hW.rdOwn 1 rfl | exact hW.rd 2 rfl | exact hW.rdOwn 2 rfl | exact hW.rd 3 rfl | exact hW.rdOwn 3 rfl | exact hW.rd 4 rfl | exact hW.rdOwn 4 rfl | exact hW.rd 5 rfl | exact hW.rdOwn 5 rfl | exact hW.rd 6 rfl | exact hW.rdOwn 6 rfl | exact hW.rd 7 rfl | exact hW.rdOwn 7 rfl | exact hW.rd 8 rfl | exact hW.rdOwn 8 rfl | exact hW.rd 9 rfl | exact hW.rdOwn 9 rfl | exact hW.rd 10 rfl | exact hW.rdOwn 10 rfl | exact hW.rd 11 rfl | exact hW.rdOwn 11 rfl | exact hW.rd 12 rfl | exact hW.rdOwn 12 rfl | exact hW.rd 13 rfl | exact hW.rdOwn 13 rfl | exact hW.rd 14 rfl | exact hW.rdOwn 14 rfl | exact hW.rd 15 rfl | exact hW.rdOwn 15 rfl | exact hW.rd 16 rfl | exact hW.rdOwn 16 rfl | exact hW.rd 17 rfl | exact hW.rdOwn 17 rfl | exact hW.rd 18 rfl | exact hW.rdOwn 18 rfl | exact hW.rd 19 rfl | exact hW.rdOwn 19 rfl | exact hW.rd 20 rfl | exact hW.rdOwn 20 rfl | exact hW.rd 21 rfl | exact hW.rdOwn 21 rfl | exact hW.rd 22 rfl | exact hW.rdOwn 22 rfl | exact hW.rd 23 rfl | exact hW.rdOwn 23 rfl), (by first | exact hW.rd 0 rfl | exact hW.rdOwn 0 rfl | exact hW.rd 1 rfl | exact hW.rdOwn 1 rfl | exact hW.rd 2 rfl | exact hW.rdOwn 2 rfl | exact hW.rd 3 rfl | exact hW.rdOwn 3 rfl | exact hW.rd 4 rfl | exact hW.rdOwn 4 rfl | exact hW.rd 5 rfl | exact hW.rdOwn 5 rfl | exact hW.rd 6 rfl | exact hW.rdOwn 6 rfl | exact hW.rd 7 rfl | exact hW.rdOwn 7 rfl | exact hW.rd 8 rfl | exact hW.rdOwn 8 rfl | exact hW.rd 9 rfl | exact hW.rdOwn 9 rfl | exact hW.rd 10 rfl | exact hW.rdOwn 10 rfl | exact hW.rd 11 rfl | exact hW.rdOwn 11 rfl | exact hW.rd 12 rfl | exact hW.rdOwn 12 rfl | exact hW.rd 13 rfl | exact hW.rdOwn 13 rfl | exact hW.rd 14 rfl | exact hW.rdOwn 14 rfl | exact hW.rd 15 rfl | exact hW.rdOwn 15 rfl | exact hW.rd 16 rfl | exact hW.rdOwn 16 rfl | exact hW.rd 17 rfl | exact hW.rdOwn 17 rfl | exact hW.rd 18 rfl | exact hW.rdOwn 18 rfl | exact hW.rd 19 rfl | exact hW.rdOwn 19 rfl | exact hW.rd 20 rfl | exact hW.rdOwn 20 rfl | exact hW.rd 21 rfl | exact hW.rdOwn 21 rfl | exact hW.rd 22 rfl | exact hW.rdOwn 22 rfl | exact hW.rd 23 rfl | exact hW.rdOwn 23 rfl), trivial⟩ (by omega) (by omega)) ?_
  rintro v L ⟨rfl, rfl⟩
  refine CaseB.mk (fun h1 => ?_) (fun h1 => ?_)
  · have g : ¬ m = m2 := fun e => by subst e; simp at h1
    exact retw [] ⟨by simp [g], rfl⟩ trivial rfl trivial (fun _ => rfl)
  have g : m = m2 := hx.2 ⟨by simpa using h0, by simpa using h1⟩
  exact retw [] ⟨by simp [g], rfl⟩ trivial rfl trivial (fun _ => rfl)

end Go.Proofs.YtchkcjeeknfchaaGreatDoor

namespace Go.Proofs.YtchkcjeeknfchaaGreatDoor

open Go Go.Sx Go.RowKit

set_option maxRecDepth 100000 in
theorem szGroupS_c (h : Sl) (xs : List GroupH) (left : Int) (w : World) (hh : At w [fR (groupsO h xs)]) (h0 : -1 ≤ left) (h1 : left ≤ 1048576) :
    Calls Tryz.prog 20 #[h.val xs.length, .int .i64 left] w (Ret w fun v L => v = .int .i64 (szAll szGroupM (xs.map (·.m)) left) ∧ L = []) := by
  have hrd := (Rd.ofR (nest_h (xs := xs))).p w hh.1.1
  obtain ⟨_, b1, b2, _⟩ := hrd
  unfold maxLen at b2
  have e : IntKind.i64.wrap (left - (xs.length : Int)) = left - xs.length := e_wrap (by omega) (by omega)
  refine calls2 Tryz.func20 rfl tabOk w _ rfl _ rfl _ hh ⟨rfl, rfl, trivial⟩ _ _ (by decide) ?_
  refine CaseB.mk (fun g => ?_) (fun g => ?_)
  · rw [e] at g
    have g2 : left - (xs.length : Int) < 0 := by simpa using g
    exact retw [] ⟨by simp [szAll, g2], rfl⟩ trivial rfl trivial (fun _ => rfl)
  · rw [e] at g
    have g2 : ¬ left - (xs.length : Int) < 0 := by simpa using g
    refine LoopW.mk ⟨{ p : Nat × Int // p.1 ≤ xs.length ∧ szList szGroupM ((xs.map (·.m)).drop p.1) p.2 = szAll szGroupM (xs.map (·.m)) left ∧ -1 ≤ p.2 ∧ p.2 ≤ 1048576 },
      fun p => .mk [(0, .v (h.val xs.length)), (1, .v (.int .i64 p.1.2)), (5, .v (.int .i64 (p.1.1 : Int)))] 0 0 [] [] [fR (groupsO h xs)],
      fun p => xs.length - p.1.1, ⟨(0, left - xs.length), Nat.zero_le _, by simp [szAll, g2], by omega, by omega⟩, ?_, ?_⟩
    · refine weak_mk [0] ?_ ?_ ?_ ?_ ?_ rfl rfl
      · repeat (first | exact trivial | refine ⟨⟨_, rfl, (by first | exact .of rfl | exact .lit rfl | exact .of (by first | ((simp only [e]))) | exact .lit (by first | ((simp only [e])))), (by first | exact trivial | exact Nat.le_of_ble_eq_true rfl | exact small1 rfl)⟩, ?_⟩)
      · repeat (first | exact trivial | refine ⟨⟨(by first | exact .head _ | exact .tail _ (.head _) | exact .tail _ (.tail _ (.head _)) | exact .tail _ (.tail _ (.tail _ (.head _))) | exact .tail _ (.tail _ (.tail _ (.tail _ (.head _)))) | exact .tail _ (.tail _ (.tail _ (.tail _ (.tail _ (.head _))))) | exact .tail _ (.tail _ (.tail _ (.tail _ (.tail _ (.tail _ (.head _)))))) | exact .tail _ (.tail _ (.tail _ (.tail _ (.tail _ (.tail _ (.tail _ (.head _))))))) | exact .tail _ (.tail _ (.tail _ (.tail _ (.tail _ (.tail _ (.tail _ (.tail _ (.head _)))))))) | exact .tail _ (.tail _ (.tail _ (.tail _ (.tail _ (.tail _ (.tail _ (.tail _ (.tail _ (.head _)))))))))), Nat.le_of_ble_eq_true rfl⟩, ?_⟩)
      · repeat (first | exact trivial | refine ⟨⟨_, rfl, (by first | exact .of rfl | exact .lit rfl | exact .of (by first | ((simp only [e]))) | exact .lit (by first | ((simp only [e])))), (by first | exact trivial | exact Nat.le_of_ble_eq_true rfl | exact small1 rfl)⟩, ?_⟩)
      · repeat (first | exact trivial | refine ⟨⟨_, rfl⟩, ?_⟩)
      · repeat (first | exact trivial | refine ⟨.inl ⟨_, rfl, (by first | rfl | ((simp only [e])))⟩, ?_⟩ | refine ⟨.inr ⟨Nat.le_of_ble_eq_true rfl, rfl, rfl, rfl, rfl⟩, ?_⟩)
    · rintro ⟨⟨k, l⟩, hk, hl, hl0, hl1⟩
      simp only at hk hl hl0 hl1
      refine CaseB.mk (fun g3 => ?_) (fun g3 => ?_)
      · have hlt : k < xs.length := by simpa using g3
        rw [List.drop_eq_getElem_cons (by simpa using hlt)] at hl
        simp only [szList, List.getElem_map] at hl
        refine stop_idx encGroupH tabOk rfl rfl rfl rfl rfl ⟨rfl, rfl⟩ (rdVia 0 rfl (.ofR nest_h)) k rfl (by first | omega | (simp; done) | (simp; omega) | (unfold maxLen; omega) | (unfold maxLen; simp; done) | (unfold maxLen; simp; omega)) (fun ad => ?_)
        refine stop_call _ cl58 rfl rfl rfl rfl ⟨rfl, rfl⟩ (fun A w hW => szGroup_c _ _ _ w ⟨hW.get 0 rfl (.ofR (groupsO_0 h xs k hlt)), trivial⟩ hl0 hl1) ?_
        rintro v L ⟨rfl, rfl⟩
        refine CaseB.mk (fun g4 => ?_) (fun g4 => ?_)
        · have q : szGroupM xs[k].m l < 0 := by simpa using g4
          rw [if_pos q] at hl
          exact retw [] ⟨by rw [← hl], rfl⟩ trivial rfl trivial (fun _ => rfl)
        · have q : ¬ szGroupM xs[k].m l < 0 := by simpa using g4
          rw [if_neg q] at hl
          have q2 := (szGroupM_gen xs[k].m l hl1 q).2
          have hw := e_succ k _ hlt (by omega)
          refine ⟨⟨(k + 1, szGroupM xs[k].m l), hlt, hl, by omega, by omega⟩, ?_, by simp only; omega⟩
          refine weak_mk [0] ?_ ?_ ?_ ?_ ?_ rfl rfl
          · repeat (first | exact trivial | refine ⟨⟨_, rfl, (by first | exact .of rfl | exact .lit rfl | exact .of (by first | ((exact congrArg (fun z => SV.v (Value.int .i64 z)) hw))) | exact .lit (by first | ((exact congrArg (fun z => SV.v (Value.int .i64 z)) hw)))), (by first | exact trivial | exact Nat.le_of_ble_eq_true rfl | exact small1 rfl)⟩, ?_⟩)
          · repeat (first | exact trivial | refine ⟨⟨(by first | exact .head _ | exact .tail _ (.head _) | exact .tail _ (.tail _ (.head _)) | exact .tail _ (.tail _ (.tail _ (.head _))) | exact .tail _ (.tail _ (.tail _ (.tail _ (.head _)))) | exact .tail _ (.tail _ (.tail _ (.tail _ (.tail _ (.head _))))) | exact .tail _ (.tail _ (.tail _ (.tail _ (.tail _ (.tail _ (.head _)))))) | exact .tail _ (.tail _ (.tail _ (.tail _ (.tail _ (.tail _ (.tail _ (.head _))))))) | exact .tail _ (.tail _ (.tail _ (.tail _ (.tail _ (.tail _ (.tail _ (.tail _ (.head _)))))))) | exact .tail _ (.tail _ (.tail _ (.tail _ (.tail _ (.tail _ (.tail _ (.tail _ (.tail _ (.head _)))))))))), Nat.le_of_ble_eq_true rfl⟩, ?_⟩)
          · repeat (first | exact trivial | refine ⟨⟨_, rfl, (by first | exact .of rfl | exact .lit rfl | exact .of (by first | ((exact congrArg (fun z => SV.v (Value.int .i64 z)) hw))) | exact .lit (by first | ((exact congrArg (fun z => SV.v (Value.int .i64 z)) hw)))), (by first | exact trivial | exact Nat.le_of_ble_eq_true rfl | exact small1 rfl)⟩, ?_⟩)
          · repeat (first | exact trivial | refine ⟨⟨_, rfl⟩, ?_⟩)
          · repeat (first | exact trivial | refine ⟨.inl ⟨_, rfl, (by first | rfl | ((exact congrArg (fun z => SV.v (Value.int .i64 z)) hw)))⟩, ?_⟩ | refine ⟨.inr ⟨Nat.le_of_ble_eq_true rfl, rfl, rfl, rfl, rfl⟩, ?_⟩)
      · have hge : xs.length ≤ k := by simpa using g3
        rw [List.drop_eq_nil_of_le (by simpa using hge)] at hl
        exact retw [] ⟨congrArg (Value.int .i64) hl, rfl⟩ trivial rfl trivial (fun _ => rfl)

def GroupH0 : GroupH := ⟨⟨0, []⟩, ⟨none, 0⟩⟩

set_option maxRecDepth 100000 in
theorem toGroupS_c (h : Sl) (xs : List GroupH) (w : World) (hh : At w [fR (groupsO h xs)]) (hl : xs.length ≤ 1048576) (hb : ∀ x ∈ xs, Group.small20 x.m) :
    Calls Tryz.prog 28 #[h.val xs.length] w (Ret w fun v L => ∃ (y : Sl) (ys : List GroupH), v = y.val ys.length ∧ ys.map (·.m) = xs.map (·.m) ∧ L = [fO (groupsO y ys)]) := by
  refine calls1 Tryz.func28 rfl tabOk w _ rfl _ rfl _ hh ⟨rfl, rfl, trivial⟩ _ (by decide) ?_
  refine stop_make encGroupH GroupH0 tabOk rfl rfl rfl rfl rfl (by decide) ⟨rfl, rfl⟩ xs.length rfl (by first | omega | (simp; done) | (simp; omega) | (unfold maxLen; omega) | (unfold maxLen; simp; done) | (unfold maxLen; simp; omega)) (by first | omega | (simp; done) | (simp; omega) | (unfold maxLen; omega) | (unfold maxLen; simp; done) | (unfold maxLen; simp; omega)) (fun y => ?_)
  refine LoopW.mk ⟨{ p : Nat × List GroupH // p.1 ≤ xs.length ∧ p.2.map (·.m) = (xs.map (·.m)).take p.1 },
    fun p => .mk [(0, .v (h.val xs.length)), (3, .v (y.val (p.1.2 ++ List.replicate (xs.length - p.1.1) GroupH0).length)), (4, .v (.int .i64 (p.1.1 : Int)))] 0 0 [] [] [own y 88 cGroupH 2 (p.1.2 ++ List.replicate (xs.length - p.1.1) GroupH0), fO (p.1.2.flatMap groupO), fR (groupsO h xs)],
    fun p => xs.length - p.1.1, ⟨(0, []), Nat.zero_le _, by simp⟩, ?_, ?_⟩
  · refine weak_shift (.joinO [] (Gs := []) trivial rfl (.refl _)) ?_
    refine weak_mk [1, 0, 2] ?_ ?_ ?_ ?_ ?_ rfl rfl
    · repeat (first | exact trivial | refine ⟨⟨_, rfl, (by first | exact .of rfl | exact .lit rfl | exact .of (by first | ((simp))) | exact .lit (by first | ((simp)))), (by first | exact trivial | exact Nat.le_of_ble_eq_true rfl | exact small1 rfl)⟩, ?_⟩)
    · repeat (first | exact trivial | refine ⟨⟨(by first | exact .head _ | exact .tail _ (.head _) | exact .tail _ (.tail _ (.head _)) | exact .tail _ (.tail _ (.tail _ (.head _))) | exact .tail _ (.tail _ (.tail _ (.tail _ (.head _)))) | exact .tail _ (.tail _ (.tail _ (.tail _ (.tail _ (.head _))))) | exact .tail _ (.tail _ (.tail _ (.tail _ (.tail _ (.tail _ (.head _)))))) | exact .tail _ (.tail _ (.tail _ (.tail _ (.tail _ (.tail _ (.tail _ (.head _))))))) | exact .tail _ (.tail _ (.tail _ (.tail _ (.tail _ (.tail _ (.tail _ (.tail _ (.head _)))))))) | exact .tail _ (.tail _ (.tail _ (.tail _ (.tail _ (.tail _ (.tail _ (.tail _ (.tail _ (.head _)))))))))), Nat.le_of_ble_eq_true rfl⟩, ?_⟩)
    · repeat (first | exact trivial | refine ⟨⟨_, rfl, (by first | exact .of rfl | exact .lit rfl | exact .of (by first | ((simp))) | exact .lit (by first | ((simp)))), (by first | exact trivial | exact Nat.le_of_ble_eq_true rfl | exact small1 rfl)⟩, ?_⟩)
    · repeat (first | exact trivial | refine ⟨⟨_, rfl⟩, ?_⟩)
    · repeat (first | exact trivial | refine ⟨.inl ⟨_, rfl, (by first | rfl | ((simp)))⟩, ?_⟩ | refine ⟨.inr ⟨Nat.le_of_ble_eq_true rfl, rfl, rfl, rfl, rfl⟩, ?_⟩)
  · rintro ⟨⟨k, ys⟩, hk, hy⟩
    simp only at hk hy
    have hyl : ys.length = k := by have := congrArg List.length hy; simp at this; omega
    refine CaseB.mk (fun g => ?_) (fun g => ?_)
    · have hlt : k < xs.length := by simpa using g
      have hlt2 : k < (ys ++ List.replicate (xs.length - k) GroupH0).length := by simp; omega
      refine stop_idx encGroupH tabOk rfl rfl rfl rfl rfl ⟨rfl, rfl⟩ (rdVia 2 rfl (.ofR nest_h)) k rfl (by first | omega | (simp; done) | (simp; omega) | (unfold maxLen; omega) | (unfold maxLen; simp; done) | (unfold maxLen; simp; omega)) (fun ad => ?_)
      refine stop_call _ cl64 rfl rfl rfl rfl ⟨rfl, rfl⟩ (fun A w hW => toGroup_c _ _ w ⟨hW.get 2 rfl (.ofR (groupsO_0 h xs k hlt)), trivial⟩ (hb _ (List.getElem_mem hlt))) ?_
      rintro v L ⟨y0, rfl, rfl⟩
      generalize hx : (⟨xs[k].m, y0⟩ : GroupH) = x
      have hxm : x.m = xs[k].m := by rw [← hx]
      have hT : (ys ++ List.replicate (xs.length - k) GroupH0).set k x = (ys ++ [x]) ++ List.replicate (xs.length - (k + 1)) GroupH0 := by
        rw [List.set_append_right _ _ (by omega), show k - ys.length = 0 by omega, show xs.length - k = (xs.length - (k + 1)) + 1 by omega, List.replicate_succ, List.append_assoc]
        rfl
      generalize hq : (ys ++ List.replicate (xs.length - k) GroupH0) = Q at hT hlt2
      refine stop_idxW encGroupH 1 tabOk rfl rfl rfl rfl rfl ⟨rfl, rfl⟩ rfl (by first | rfl | (simp; done)) k rfl hlt2 (fun g1 hg1 => ?_)
      refine stop_storeW encGroupH 1 tabOk rfl rfl rfl rfl rfl rfl rfl rfl hg1 k 0 x rfl hlt2 rfl (cGroupH x) (fun _ => by rw [← hx]; rfl) (by rw [List.drop_eq_nil_of_le (by exact Nat.le_refl _)]; simp) ?_
      have hw := e_succ k _ hlt (by omega)
      refine ⟨⟨(k + 1, ys ++ [x]), hlt, by rw [List.map_append]; exact map_take_succ hlt hy hxm⟩, ?_, by simp only; omega⟩
      refine weak_shift (.joinO [1, 2] (Gs := [[_], _]) ⟨.inl ⟨_, rfl, .own⟩, .inl ⟨_, rfl, .o⟩, trivial⟩ rfl (G := (ys ++ [x]).flatMap groupO) (by subst hx; rw [List.flatMap_append]; exact (List.Perm.of_eq (by simp [groupO])).trans List.perm_append_comm)) ?_
      refine weak_mk [1, 0, 2] ?_ ?_ ?_ ?_ ?_ rfl rfl
      · repeat (first | exact trivial | refine ⟨⟨_, rfl, (by first | exact .of rfl | exact .lit rfl | exact .of (by first | ((first | (rw [hT]; done) | (simp only; done) | exact congrArg (fun z => SV.v (Value.int .i64 z)) hw | (rw [← hT]; simp)))) | exact .lit (by first | ((first | (rw [hT]; done) | (simp only [hT]; done) | exact congrArg (fun z => SV.v (Value.int .i64 z)) hw | (rw [← hT]; simp))))), (by first | exact trivial | exact Nat.le_of_ble_eq_true rfl | exact small1 rfl)⟩, ?_⟩)
      · repeat (first | exact trivial | refine ⟨⟨(by first | exact .head _ | exact .tail _ (.head _) | exact .tail _ (.tail _ (.head _)) | exact .tail _ (.tail _ (.tail _ (.head _))) | exact .tail _ (.tail _ (.tail _ (.tail _ (.head _)))) | exact .tail _ (.tail _ (.tail _ (.tail _ (.tail _ (.head _))))) | exact .tail _ (.tail _ (.tail _ (.tail _ (.tail _ (.tail _ (.head _)))))) | exact .tail _ (.tail _ (.tail _ (.tail _ (.tail _ (.tail _ (.tail _ (.head _))))))) | exact .tail _ (.tail _ (.tail _ (.tail _ (.tail _ (.tail _ (.tail _ (.tail _ (.head _)))))))) | exact .tail _ (.tail _ (.tail _ (.tail _ (.tail _ (.tail _ (.tail _ (.tail _ (.tail _ (.head _)))))))))), Nat.le_of_ble_eq_true rfl⟩, ?_⟩)
      · repeat (first | exact trivial | refine ⟨⟨_, rfl, (by first | exact .of rfl | exact .lit rfl | exact .of (by first | ((first | (rw [hT]; done) | (simp only [hT]; done) | exact congrArg (fun z => SV.v (Value.int .i64 z)) hw | (rw [← hT]; simp)))) | exact .lit (by first | ((first | (rw [hT]; done) | (simp only [hT]; done) | exact congrArg (fun z => SV.v (Value.int .i64 z)) hw | (rw [← hT]; simp))))), (by first | exact trivial | exact Nat.le_of_ble_eq_true rfl | exact small1 rfl)⟩, ?_⟩)
      · repeat (first | exact trivial | refine ⟨⟨_, rfl⟩, ?_⟩)
      · repeat (first | exact trivial | refine ⟨.inl ⟨_, rfl, (by first | rfl | ((first | (rw [hT]; done) | (simp only [hT]; done) | exact congrArg (fun z => SV.v (Value.int .i64 z)) hw | (rw [← hT]; simp))))⟩, ?_⟩ | refine ⟨.inr ⟨Nat.le_of_ble_eq_true rfl, rfl, rfl, rfl, rfl⟩, ?_⟩)
    · have hge : xs.length ≤ k := by simpa using g
      have hT : ys ++ List.replicate (xs.length - k) GroupH0 = ys := by rw [show xs.length - k = 0 by omega]; simp
      simp only [hT]
      refine ret_shift (.joinO [0, 1] (Gs := [[_], _]) ⟨.inl ⟨_, rfl, .own⟩, .inl ⟨_, rfl, .o⟩, trivial⟩ rfl (G := groupsO y ys) (.of_eq (by simp [groupsO, nestO]))) ?_
      exact retw [0] ⟨y, ys, rfl, by rw [hy, List.take_of_length_le (by simpa using hge)], rfl⟩ ⟨.inl ⟨_, rfl, rfl⟩, trivial⟩ rfl ⟨rfl, trivial⟩ (fun _ => rfl)

set_option maxRecDepth 100000 in
theorem eqGroupS_c (h h2 : Sl) (xs ys : List GroupH) (w : World) (hh : At w [fR (groupsO h xs), fR (groupsO h2 ys)]) (hl : xs.length ≤ 1048576) (hb : ∀ x ∈ xs, Group.small20 x.m) (hb2 : ∀ x ∈ ys, Group.small20 x.m) :
    Calls Tryz.prog 37 #[h.val xs.length, h2.val ys.length] w (Ret w fun v L => v = .bool (decide (xs.map (·.m) = ys.map (·.m))) ∧ L = []) := by
  refine calls2 Tryz.func37 rfl tabOk w _ rfl _ rfl _ hh ⟨rfl, rfl, rfl, rfl, trivial⟩ _ _ (by decide) ?_
  refine CaseB.mk (fun g => ?_) (fun g => ?_)
  · have hne : xs.map (·.m) ≠ ys.map (·.m) := fun e => by
      have := congrArg List.length e
      simp at this g
      omega
    refine retw [] ⟨?_, rfl⟩ trivial rfl trivial (fun _ => rfl)
    simp [hne]
  · have hll : xs.length = ys.length := by simp at g; omega
    refine LoopW.mk ⟨{ k : Nat // k ≤ xs.length ∧ (xs.map (·.m)).take k = (ys.map (·.m)).take k },
      fun p => .mk [(0, .v (h.val xs.length)), (1, .v (h2.val ys.length)), (5, .v (.int .i64 p.1))] 0 0 [] [] [fR (groupsO h xs), fR (groupsO h2 ys)],
      fun p => xs.length - p.1, ⟨0, Nat.zero_le _, rfl⟩, ?_, ?_⟩
    · refine weak_mk [0, 1] ?_ ?_ ?_ ?_ ?_ rfl rfl
      · repeat (first | exact trivial | refine ⟨⟨_, rfl, (by first | exact .of rfl | exact .lit rfl | exact .of (by first | (rfl)) | exact .lit (by first | (rfl))), (by first | exact trivial | exact Nat.le_of_ble_eq_true rfl | exact small1 rfl)⟩, ?_⟩)
      · repeat (first | exact trivial | refine ⟨⟨(by first | exact .head _ | exact .tail _ (.head _) | exact .tail _ (.tail _ (.head _)) | exact .tail _ (.tail _ (.tail _ (.head _))) | exact .tail _ (.tail _ (.tail _ (.tail _ (.head _)))) | exact .tail _ (.tail _ (.tail _ (.tail _ (.tail _ (.head _))))) | exact .tail _ (.tail _ (.tail _ (.tail _ (.tail _ (.tail _ (.head _)))))) | exact .tail _ (.tail _ (.tail _ (.tail _ (.tail _ (.tail _ (.tail _ (.head _))))))) | exact .tail _ (.tail _ (.tail _ (.tail _ (.tail _ (.tail _ (.tail _ (.tail _ (.head _)))))))) | exact .tail _ (.tail _ (.tail _ (.tail _ (.tail _ (.tail _ (.tail _ (.tail _ (.tail _ (.head _)))))))))), Nat.le_of_ble_eq_true rfl⟩, ?_⟩)
      · repeat (first | exact trivial | refine ⟨⟨_, rfl, (by first | exact .of rfl | exact .lit rfl | exact .of (by first | (rfl)) | exact .lit (by first | (rfl))), (by first | exact trivial | exact Nat.le_of_ble_eq_true rfl | exact small1 rfl)⟩, ?_⟩)
      · repeat (first | exact trivial | refine ⟨⟨_, rfl⟩, ?_⟩)
      · repeat (first | exact trivial | refine ⟨.inl ⟨_, rfl, (by first | rfl | (rfl))⟩, ?_⟩ | refine ⟨.inr ⟨Nat.le_of_ble_eq_true rfl, rfl, rfl, rfl, rfl⟩, ?_⟩)
    · rintro ⟨k, hk, he⟩
      refine CaseB.mk (fun g2 => ?_) (fun g2 => ?_)
      · have hlt : k < xs.length := by simpa using g2
        have hlt2 : k < ys.length := by omega
        obtain ⟨q1, q2⟩ := take_eq_succ he (by simpa using hlt) (by simpa using hlt2)
        simp only [List.getElem_map] at q1 q2
        refine draw_start tabOk (by kernel_rfl) (by kernel_rfl) (by kernel_rfl) 200 [] [0, 1] [_, _] trivial trivial ⟨rfl, rfl, trivial⟩ rfl ?_
        refine d_idx (ti := tiOf tab) encGroupH tabOk rfl rfl rfl rfl rfl ⟨rfl, rfl⟩ (rdVia 0 rfl (.ofR nest_h)) k rfl (by first | omega | (simp; done) | (simp; omega) | (unfold maxLen; omega) | (unfold maxLen; simp; done) | (unfold maxLen; simp; omega)) (fun ad => ?_)
        refine d_idx (ti := tiOf tab) encGroupH tabOk rfl rfl rfl rfl rfl ⟨rfl, rfl⟩ (rdVia 1 rfl (.ofR nest_h)) k rfl (by first | omega | (simp; done) | (simp; omega) | (unfold maxLen; omega) | (unfold maxLen; simp; done) | (unfold maxLen; simp; omega)) (fun ad2 => ?_)
        refine d_call _ cl74 rfl rfl rfl rfl ⟨rfl, rfl⟩ (fun A w hW => eqGroup_c _ _ _ _ w ⟨hW.get 0 rfl (.ofR (groupsO_0 h xs k hlt)), hW.get 1 rfl (.ofR (groupsO_0 h2 ys k hlt2)), trivial⟩ (hb _ (List.getElem_mem hlt)) (hb2 _ (List.getElem_mem hlt2))) ?_
        rintro v L ⟨rfl, rfl⟩
        refine CaseB.mk (fun g3 => ?_) (fun g3 => ?_)
        · have hne := q2 (by simpa using g3)
          refine retw [] ⟨?_, rfl⟩ trivial rfl trivial (fun _ => rfl)
          simp [hne]
        · have heq := q1 (by simpa using g3)
          have hw := e_succ k _ hlt (by omega)
          refine ⟨⟨k + 1, by omega, heq⟩, ?_, by simp; omega⟩
          refine weak_mk [0, 1] ?_ ?_ ?_ ?_ ?_ rfl rfl
          · repeat (first | exact trivial | refine ⟨⟨_, rfl, (by first | exact .of rfl | exact .lit rfl | exact .of (by first | ((exact congrArg (fun z => SV.v (Value.int .i64 z)) hw))) | exact .lit (by first | ((exact congrArg (fun z => SV.v (Value.int .i64 z)) hw)))), (by first | exact trivial | exact Nat.le_of_ble_eq_true rfl | exact small1 rfl)⟩, ?_⟩)
          · repeat (first | exact trivial | refine ⟨⟨(by first | exact .head _ | exact .tail _ (.head _) | exact .tail _ (.tail _ (.head _)) | exact .tail _ (.tail _ (.tail _ (.head _))) | exact .tail _ (.tail _ (.tail _ (.tail _ (.head _)))) | exact .tail _ (.tail _ (.tail _ (.tail _ (.tail _ (.head _))))) | exact .tail _ (.tail _ (.tail _ (.tail _ (.tail _ (.tail _ (.head _)))))) | exact .tail _ (.tail _ (.tail _ (.tail _ (.tail _ (.tail _ (.tail _ (.head _))))))) | exact .tail _ (.tail _ (.tail _ (.tail _ (.tail _ (.tail _ (.tail _ (.tail _ (.head _)))))))) | exact .tail _ (.tail _ (.tail _ (.tail _ (.tail _ (.tail _ (.tail _ (.tail _ (.tail _ (.head _)))))))))), Nat.le_of_ble_eq_true rfl⟩, ?_⟩)
          · repeat (first | exact trivial | refine ⟨⟨_, rfl, (by first | exact .of rfl | exact .lit rfl | exact .of (by first | ((exact congrArg (fun z => SV.v (Value.int .i64 z)) hw))) | exact .lit (by first | ((exact congrArg (fun z => SV.v (Value.int .i64 z)) hw)))), (by first | exact trivial | exact Nat.le_of_ble_eq_true rfl | exact small1 rfl)⟩, ?_⟩)
          · repeat (first | exact trivial | refine ⟨⟨_, rfl⟩, ?_⟩)
          · repeat (first | exact trivial | refine ⟨.inl ⟨_, rfl, (by first | rfl | ((exact congrArg (fun z => SV.v (Value.int .i64 z)) hw)))⟩, ?_⟩ | refine ⟨.inr ⟨Nat.le_of_ble_eq_true rfl, rfl, rfl, rfl, rfl⟩, ?_⟩)
      · have hge : xs.length ≤ k := by simpa using g2
        have heq : xs.map (·.m) = ys.map (·.m) := by rw [List.take_of_length_le (by simpa using hge), List.take_of_length_le (by simp; omega)] at he; exact he
        refine retw [] ⟨?_, rfl⟩ trivial rfl trivial (fun _ => rfl)
        simp [heq]

end Go.Proofs.YtchkcjeeknfchaaGreatDoor

namespace Go.Proofs.YtchkcjeeknfchaaGreatDoor

open Go Go.Sx Go.RowKit

def Barrier.small20 (m : Barrier) : Prop := m.waits.length ≤ 1048576

def szBarrierM (m : Barrier) (left : Int) : Int := szStep m.waits.length left fun a0 => a0

theorem szBarrierM_gen (m : Barrier) (l : Int) (hl : l ≤ 1048576) (h : ¬ szBarrierM m l < 0) : m.small20 ∧ szBarrierM m l ≤ l := by
  simp only [szBarrierM, szStep, szN] at h ⊢
  simp only [Barrier.small20]
  omega

set_option maxRecDepth 100000 in
theorem szBarrier_c (m : Barrier) (s0 : Sl) (left : Int) (w : World) (h : At w [slo s0 cInt 1 m.waits]) (h0 : -1 ≤ left) (h1 : left ≤ 1048576) :
    Calls Tryz.prog 59 #[barrierV m s0, .int .i64 left] w (Ret w fun v L => v = .int .i64 (szBarrierM m left) ∧ L = []) := by
  refine calls2 Tryz.func59 rfl tabOk w _ rfl _ rfl _ h ⟨rfl, rfl, trivial⟩ _ _ (by decide) ?_
  refine stop_call _ cl16 rfl rfl rfl rfl ⟨rfl, rfl⟩ (fun A w hW => szIntS_c s0 m.waits left w ⟨(by first | exact hW.rd 0 rfl | exact hW.rdOwn 0 rfl | exact hW.rd 1 rfl | exact hW.rdOwn 1 rfl | exact hW.rd 2 rfl | exact hW.rdOwn 2 rfl | exact hW.rd 3 rfl | exact hW.rdOwn 3 rfl | exact hW.rd 4 rfl | exact hW.rdOwn 4 rfl | exact hW.rd 5 rfl | exact hW.rdOwn 5 rfl | exact hW.rd 6 rfl | exact hW.rdOwn 6 rfl | exact hW.rd 7 rfl | exact hW.rdOwn 7 rfl | exact hW.rd 8 rfl | exact hW.rdOwn 8 rfl | exact hW.rd 9 rfl | exact hW.rdOwn 9 rfl | exact hW.rd 10 rfl | exact hW.rdOwn 10 rfl | exact hW.rd 11 rfl | exact hW.rdOwn 11 rfl | exact hW.rd 12 rfl | exact hW.rdOwn 12 rfl | exact hW.rd 13 rfl | exact hW.rdOwn 13 rfl | exact hW.rd 14 rfl | exact hW.rdOwn 14 rfl | exact hW.rd 15 rfl | exact hW.rdOwn 15 rfl | exact hW.rd 16 rfl | exact hW.rdOwn 16 rfl | exact hW.rd 17 rfl | exact hW.rdOwn 17 rfl | exact hW.rd 18 rfl | exact hW.rdOwn 18 rfl | exact hW.rd 19 rfl | exact hW.rdOwn 19 rfl | exact hW.rd 20 rfl | exact hW.rdOwn 20 rfl | exact hW.rd 21 rfl | exact hW.rdOwn 21 rfl | exact hW.rd 22 rfl | exact hW.rdOwn 22 rfl | exact hW.rd 23 rfl | exact hW.rdOwn 23 rfl), trivial⟩ h0 h1) ?_
  rintro v L ⟨rfl, rfl⟩
  refine CaseB.mk (fun g0 => ?_) (fun g0 => ?_)
  · have q : szN m.waits.length (left) < 0 := by simpa using g0
    refine retw [] ⟨?_, rfl⟩ trivial rfl trivial (fun _ => rfl)
    simp [szBarrierM, szStep, q]
  have q0 : ¬ szN m.waits.length (left) < 0 := by simpa using g0
  refine retw [] ⟨?_, rfl⟩ trivial rfl trivial (fun _ => rfl)
  simp [szBarrierM, szStep, q0]

set_option maxRecDepth 100000 in
theorem toBarrier_c (m : Barrier) (s0 : Sl) (w : World) (h : At w [slo s0 cInt 1 m.waits]) (hb : m.small20) :
    Calls Tryz.prog 65 #[barrierV m s0] w (Ret w fun v L => ∃ y0 : Sl, v = barrierV m y0 ∧ L = [own y0 3 cInt 1 m.waits]) := by
  have b0 := hb
  unfold Barrier.small20 at b0
  refine calls1 Tryz.func65 rfl tabOk w _ rfl _ rfl _ h ⟨rfl, rfl, trivial⟩ _ (by decide) ?_
  refine stop_call _ cl24 rfl rfl rfl rfl ⟨rfl, rfl⟩ (fun A w hW => toIntS_c s0 m.waits w ⟨(by first | exact hW.rd 0 rfl | exact hW.rdOwn 0 rfl | exact hW.rd 1 rfl | exact hW.rdOwn 1 rfl | exact hW.rd 2 rfl | exact hW.rdOwn 2 rfl | exact hW.rd 3 rfl | exact hW.rdOwn 3 rfl | exact hW.rd 4 rfl | exact hW.rdOwn 4 rfl | exact hW.rd 5 rfl | exact hW.rdOwn 5 rfl | exact hW.rd 6 rfl | exact hW.rdOwn 6 rfl | exact hW.rd 7 rfl | exact hW.rdOwn 7 rfl | exact hW.rd 8 rfl | exact hW.rdOwn 8 rfl | exact hW.rd 9 rfl | exact hW.rdOwn 9 rfl | exact hW.rd 10 rfl | exact hW.rdOwn 10 rfl | exact hW.rd 11 rfl | exact hW.rdOwn 11 rfl | exact hW.rd 12 rfl | exact hW.rdOwn 12 rfl | exact hW.rd 13 rfl | exact hW.rdOwn 13 rfl | exact hW.rd 14 rfl | exact hW.rdOwn 14 rfl | exact hW.rd 15 rfl | exact hW.rdOwn 15 rfl | exact hW.rd 16 rfl | exact hW.rdOwn 16 rfl | exact hW.rd 17 rfl | exact hW.rdOwn 17 rfl | exact hW.rd 18 rfl | exact hW.rdOwn 18 rfl | exact hW.rd 19 rfl | exact hW.rdOwn 19 rfl | exact hW.rd 20 rfl | exact hW.rdOwn 20 rfl | exact hW.rd 21 rfl | exact hW.rdOwn 21 rfl | exact hW.rd 22 rfl | exact hW.rdOwn 22 rfl | exact hW.rd 23 rfl | exact hW.rdOwn 23 rfl), trivial⟩ b0) ?_
  rintro v L ⟨y0, rfl, rfl⟩
  exact retw [0] ⟨y0, rfl, rfl⟩ ⟨.inl ⟨_, rfl, rfl⟩, trivial⟩ rfl ⟨rfl, trivial⟩ (fun _ => rfl)

set_option maxRecDepth 100000 in
theorem eqBarrier_c (m m2 : Barrier) (s0 u0 : Sl) (w : World) (h : At w [slo s0 cInt 1 m.waits, slo u0 cInt 1 m2.waits]) (hb : m.small20) (hb2 : m2.small20) :
    Calls Tryz.prog 75 #[barrierV m s0, barrierV m2 u0] w (Ret w fun v L => v = .bool (decide (m = m2)) ∧ L = []) := by
  have hx : ∀ {a b : Barrier}, a = b ↔ a.parties = b.parties ∧ a.round = b.round ∧ a.waits = b.waits := fun {a b} => ⟨fun h => by subst h; exact ⟨rfl, rfl, rfl⟩, fun h => by cases a; cases b; simp_all⟩
  have b0 := hb
  unfold Barrier.small20 at b0
  have c0 := hb2
  unfold Barrier.small20 at c0
  refine calls2 Tryz.func75 rfl tabOk w _ rfl _ rfl _ h ⟨rfl, rfl, rfl, rfl, trivial⟩ _ _ (by decide) ?_
  refine CaseB.mk (fun h0 => ?_) (fun h0 => ?_)
  · have g : ¬ m = m2 := fun e => by subst e; simp at h0
    exact retw [] ⟨by simp [g], rfl⟩ trivial rfl trivial (fun _ => rfl)
  refine CaseB.mk (fun h1 => ?_) (fun h1 => ?_)
  · have g : ¬ m = m2 := fun e => by subst e; simp at h1
    exact retw [] ⟨by simp [g], rfl⟩ trivial rfl trivial (fun _ => rfl)
  refine stop_call _ cl33 rfl rfl rfl rfl ⟨rfl, rfl⟩ (fun A w hW => eqIntS_c s0 u0 m.waits m2.waits w ⟨(by first | exact hW.rd 0 rfl | exact hW.rdOwn 0 rfl | exact hW.rd 1 rfl | exact hW.rdOwn 1 rfl | exact hW.rd 2 rfl | exact hW.rdOwn 2 rfl | exact hW.rd 3 rfl | exact hW.rdOwn 3 rfl | exact hW.rd 4 rfl | exact hW.rdOwn 4 rfl | exact hW.rd 5 rfl | exact hW.rdOwn 5 rfl | exact hW.rd 6 rfl | exact hW.rdOwn 6 rfl | exact hW.rd 7 rfl | exact hW.rdOwn 7 rfl | exact hW.rd 8 rfl | exact hW.rdOwn 8 rfl | exact hW.rd 9 rfl | exact hW.rdOwn 9 rfl | exact hW.rd 10 rfl | exact hW.rdOwn 10 rfl | exact hW.rd 11 rfl | exact hW.rdOwn 11 rfl | exact hW.rd 12 rfl | exact hW.rdOwn 12 rfl | exact hW.rd 13 rfl | exact hW.rdOwn 13 rfl | exact hW.rd 14 rfl | exact hW.rdOwn 14 rfl | exact hW.rd 15 rfl | exact hW.rdOwn 15 rfl | exact hW.rd 16 rfl | exact hW.rdOwn 16 rfl | exact hW.rd 17 rfl | exact hW.rdOwn 17 rfl | exact hW.rd 18 rfl | exact hW.rdOwn 18 rfl | exact hW.rd 19 rfl | exact hW.rdOwn 19 rfl | exact hW.rd 20 rfl | exact hW.rdOwn 20 rfl | exact hW.rd 21 rfl | exact hW.rdOwn 21 rfl | exact hW.rd 22 rfl | exact hW.rdOwn 22 rfl | exact hW.rd 23 rfl | exact hW.rdOwn 23 rfl), (by first | exact hW.rd 0 rfl | exact hW.rdOwn 0 rfl | exact hW.rd 1 rfl | exact hW.rdOwn 1 rfl | exact hW.rd 2 rfl | exact hW.rdOwn 2 rfl | exact hW.rd 3 rfl | exact hW.rdOwn 3 rfl | exact hW.rd 4 rfl | exact hW.rdOwn 4 rfl | exact hW.rd 5 rfl | exact hW.rdOwn 5 rfl | exact hW.rd 6 rfl | exact hW.rdOwn 6 rfl | exact hW.rd 7 rfl | exact hW.rdOwn 7 rfl | exact hW.rd 8 rfl | exact hW.rdOwn 8 rfl | exact hW.rd 9 rfl | exact hW.rdOwn 9 rfl | exact hW.rd 10 rfl | exact hW.rdOwn 10 rfl | exact hW.rd 11 rfl | exact hW.rdOwn 11 rfl | exact hW.rd 12 rfl | exact hW.rdOwn 12 rfl | exact hW.rd 13 rfl | exact hW.rdOwn 13 rfl | exact hW.rd 14 rfl | exact hW.rdOwn 14 rfl | exact hW.rd 15 rfl | exact hW.rdOwn 15 rfl | exact hW.rd 16 rfl | exact hW.rdOwn 16 rfl | exact hW.rd 17 rfl | exact hW.rdOwn 17 rfl | exact hW.rd 18 rfl | exact hW.rdOwn 18 rfl | exact hW.rd 19 rfl | exact hW.rdOwn 19 rfl | exact hW.rd 20 rfl | exact hW.rdOwn 20 rfl | exact hW.rd 21 rfl | exact hW.rdOwn 21 rfl | exact hW.rd 22 rfl | exact hW.rdOwn 22 rfl | exact hW.rd 23 rfl | exact hW.rdOwn 23 rfl), trivial⟩ (by omega) (by omega)) ?_
  rintro v L ⟨rfl, rfl⟩
  refine CaseB.mk (fun h2 => ?_) (fun h2 => ?_)
  · have g : ¬ m = m2 := fun e => by subst e; simp at h2
    exact retw [] ⟨by simp [g], rfl⟩ trivial rfl trivial (fun _ => rfl)
  have g : m = m2 := hx.2 ⟨by simpa using h0, by simpa using h1, by simpa using h2⟩
  exact retw [] ⟨by simp [g], rfl⟩ trivial rfl trivial (fun _ => rfl)

end Go.Proofs.YtchkcjeeknfchaaGreatDoor

namespace Go.Proofs.YtchkcjeeknfchaaGreatDoor

open Go Go.Sx Go.RowKit

set_option maxRecDepth 100000 in
theorem szBarrierS_c (h : Sl) (xs : List BarrierH) (left : Int) (w : World) (hh : At w [fR (barriersO h xs)]) (h0 : -1 ≤ left) (h1 : left ≤ 1048576) :
    Calls Tryz.prog 21 #[h.val xs.length, .int .i64 left] w (Ret w fun v L => v = .int .i64 (szAll szBarrierM (xs.map (·.m)) left) ∧ L = []) := by
  have hrd := (Rd.ofR (nest_h (xs := xs))).p w hh.1.1
  obtain ⟨_, b1, b2, _⟩ := hrd
  unfold maxLen at b2
  have e : IntKind.i64.wrap (left - (xs.length : Int)) = left - xs.length := e_wrap (by omega) (by omega)
  refine calls2 Tryz.func21 rfl tabOk w _ rfl _ rfl _ hh ⟨rfl, rfl, trivial⟩ _ _ (by decide) ?_
  refine CaseB.mk (fun g => ?_) (fun g => ?_)
  · rw [e] at g
    have g2 : left - (xs.length : Int) < 0 := by simpa using g
    exact retw [] ⟨by simp [szAll, g2], rfl⟩ trivial rfl trivial (fun _ => rfl)
  · rw [e] at g
    have g2 : ¬ left - (xs.length : Int) < 0 := by simpa using g
    refine LoopW.mk ⟨{ p : Nat × Int // p.1 ≤ xs.length ∧ szList szBarrierM ((xs.map (·.m)).drop p.1) p.2 = szAll szBarrierM (xs.map (·.m)) left ∧ -1 ≤ p.2 ∧ p.2 ≤ 1048576 },
      fun p => .mk [(0, .v (h.val xs.length)), (1, .v (.int .i64 p.1.2)), (5, .v (.int .i64 (p.1.1 : Int)))] 0 0 [] [] [fR (barriersO h xs)],
      fun p => xs.length - p.1.1, ⟨(0, left - xs.length), Nat.zero_le _, by simp [szAll, g2], by omega, by omega⟩, ?_, ?_⟩
    · refine weak_mk [0] ?_ ?_ ?_ ?_ ?_ rfl rfl
      · repeat (first | exact trivial | refine ⟨⟨_, rfl, (by first | exact .of rfl | exact .lit rfl | exact .of (by first | ((simp only [e]))) | exact .lit (by first | ((simp only [e])))), (by first | exact trivial | exact Nat.le_of_ble_eq_true rfl | exact small1 rfl)⟩, ?_⟩)
      · repeat (first | exact trivial | refine ⟨⟨(by first | exact .head _ | exact .tail _ (.head _) | exact .tail _ (.tail _ (.head _)) | exact .tail _ (.tail _ (.tail _ (.head _))) | exact .tail _ (.tail _ (.tail _ (.tail _ (.head _)))) | exact .tail _ (.tail _ (.tail _ (.tail _ (.tail _ (.head _))))) | exact .tail _ (.tail _ (.tail _ (.tail _ (.tail _ (.tail _ (.head _)))))) | exact .tail _ (.tail _ (.tail _ (.tail _ (.tail _ (.tail _ (.tail _ (.head _))))))) | exact .tail _ (.tail _ (.tail _ (.tail _ (.tail _ (.tail _ (.tail _ (.tail _ (.head _)))))))) | exact .tail _ (.tail _ (.tail _ (.tail _ (.tail _ (.tail _ (.tail _ (.tail _ (.tail _ (.head _)))))))))), Nat.le_of_ble_eq_true rfl⟩, ?_⟩)
      · repeat (first | exact trivial | refine ⟨⟨_, rfl, (by first | exact .of rfl | exact .lit rfl | exact .of (by first | ((simp only [e]))) | exact .lit (by first | ((simp only [e])))), (by first | exact trivial | exact Nat.le_of_ble_eq_true rfl | exact small1 rfl)⟩, ?_⟩)
      · repeat (first | exact trivial | refine ⟨⟨_, rfl⟩, ?_⟩)
      · repeat (first | exact trivial | refine ⟨.inl ⟨_, rfl, (by first | rfl | ((simp only [e])))⟩, ?_⟩ | refine ⟨.inr ⟨Nat.le_of_ble_eq_true rfl, rfl, rfl, rfl, rfl⟩, ?_⟩)
    · rintro ⟨⟨k, l⟩, hk, hl, hl0, hl1⟩
      simp only at hk hl hl0 hl1
      refine CaseB.mk (fun g3 => ?_) (fun g3 => ?_)
      · have hlt : k < xs.length := by simpa using g3
        rw [List.drop_eq_getElem_cons (by simpa using hlt)] at hl
        simp only [szList, List.getElem_map] at hl
        refine stop_idx encBarrierH tabOk rfl rfl rfl rfl rfl ⟨rfl, rfl⟩ (rdVia 0 rfl (.ofR nest_h)) k rfl (by first | omega | (simp; done) | (simp; omega) | (unfold maxLen; omega) | (unfold maxLen; simp; done) | (unfold maxLen; simp; omega)) (fun ad => ?_)
        refine stop_call _ cl59 rfl rfl rfl rfl ⟨rfl, rfl⟩ (fun A w hW => szBarrier_c _ _ _ w ⟨hW.get 0 rfl (.ofR (barriersO_0 h xs k hlt)), trivial⟩ hl0 hl1) ?_
        rintro v L ⟨rfl, rfl⟩
        refine CaseB.mk (fun g4 => ?_) (fun g4 => ?_)
        · have q : szBarrierM xs[k].m l < 0 := by simpa using g4
          rw [if_pos q] at hl
          exact retw [] ⟨by rw [← hl], rfl⟩ trivial rfl trivial (fun _ => rfl)
        · have q : ¬ szBarrierM xs[k].m l < 0 := by simpa using g4
          rw [if_neg q] at hl
          have q2 := (szBarrierM_gen xs[k].m l hl1 q).2
          have hw := e_succ k _ hlt (by omega)
          refine ⟨⟨(k + 1, szBarrierM xs[k].m l), hlt, hl, by omega, by omega⟩, ?_, by simp only; omega⟩
          refine weak_mk [0] ?_ ?_ ?_ ?_ ?_ rfl rfl
          · repeat (first | exact trivial | refine ⟨⟨_, rfl, (by first | exact .of rfl | exact .lit rfl | exact .of (by first | ((exact congrArg (fun z => SV.v (Value.int .i64 z)) hw))) | exact .lit (by first | ((exact congrArg (fun z => SV.v (Value.int .i64 z)) hw)))), (by first | exact trivial | exact Nat.le_of_ble_eq_true rfl | exact small1 rfl)⟩, ?_⟩)
          · repeat (first | exact trivial | refine ⟨⟨(by first | exact .head _ | exact .tail _ (.head _) | exact .tail _ (.tail _ (.head _)) | exact .tail _ (.tail _ (.tail _ (.head _))) | exact .tail _ (.tail _ (.tail _ (.tail _ (.head _)))) | exact .tail _ (.tail _ (.tail _ (.tail _ (.tail _ (.head _))))) | exact .tail _ (.tail _ (.tail _ (.tail _ (.tail _ (.tail _ (.head _)))))) | exact .tail _ (.tail _ (.tail _ (.tail _ (.tail _ (.tail _ (.tail _ (.head _))))))) | exact .tail _ (.tail _ (.tail _ (.tail _ (.tail _ (.tail _ (.tail _ (.tail _ (.head _)))))))) | exact .tail _ (.tail _ (.tail _ (.tail _ (.tail _ (.tail _ (.tail _ (.tail _ (.tail _ (.head _)))))))))), Nat.le_of_ble_eq_true rfl⟩, ?_⟩)
          · repeat (first | exact trivial | refine ⟨⟨_, rfl, (by first | exact .of rfl | exact .lit rfl | exact .of (by first | ((exact congrArg (fun z => SV.v (Value.int .i64 z)) hw))) | exact .lit (by first | ((exact congrArg (fun z => SV.v (Value.int .i64 z)) hw)))), (by first | exact trivial | exact Nat.le_of_ble_eq_true rfl | exact small1 rfl)⟩, ?_⟩)
          · repeat (first | exact trivial | refine ⟨⟨_, rfl⟩, ?_⟩)
          · repeat (first | exact trivial | refine ⟨.inl ⟨_, rfl, (by first | rfl | ((exact congrArg (fun z => SV.v (Value.int .i64 z)) hw)))⟩, ?_⟩ | refine ⟨.inr ⟨Nat.le_of_ble_eq_true rfl, rfl, rfl, rfl, rfl⟩, ?_⟩)
      · have hge : xs.length ≤ k := by simpa using g3
        rw [List.drop_eq_nil_of_le (by simpa using hge)] at hl
        exact retw [] ⟨congrArg (Value.int .i64) hl, rfl⟩ trivial rfl trivial (fun _ => rfl)

def BarrierH0 : BarrierH := ⟨⟨0, 0, []⟩, ⟨none, 0⟩⟩

set_option maxRecDepth 100000 in
theorem toBarrierS_c (h : Sl) (xs : List BarrierH) (w : World) (hh : At w [fR (barriersO h xs)]) (hl : xs.length ≤ 1048576) (hb : ∀ x ∈ xs, Barrier.small20 x.m) :
    Calls Tryz.prog 29 #[h.val xs.length] w (Ret w fun v L => ∃ (y : Sl) (ys : List BarrierH), v = y.val ys.length ∧ ys.map (·.m) = xs.map (·.m) ∧ L = [fO (barriersO y ys)]) := by
  refine calls1 Tryz.func29 rfl tabOk w _ rfl _ rfl _ hh ⟨rfl, rfl, trivial⟩ _ (by decide) ?_
  refine stop_make encBarrierH BarrierH0 tabOk rfl rfl rfl rfl rfl (by decide) ⟨rfl, rfl⟩ xs.length rfl (by first | omega | (simp; done) | (simp; omega) | (unfold maxLen; omega) | (unfold maxLen; simp; done) | (unfold maxLen; simp; omega)) (by first | omega | (simp; done) | (simp; omega) | (unfold maxLen; omega) | (unfold maxLen; simp; done) | (unfold maxLen; simp; omega)) (fun y => ?_)
  refine LoopW.mk ⟨{ p : Nat × List BarrierH // p.1 ≤ xs.length ∧ p.2.map (·.m) = (xs.map (·.m)).take p.1 },
    fun p => .mk [(0, .v (h.val xs.length)), (3, .v (y.val (p.1.2 ++ List.replicate (xs.length - p.1.1) BarrierH0).length)), (4, .v (.int .i64 (p.1.1 : Int)))] 0 0 [] [] [own y 91 cBarrierH 3 (p.1.2 ++ List.replicate (xs.length - p.1.1) BarrierH0), fO (p.1.2.flatMap barrierO), fR (barriersO h xs)],
    fun p => xs.length - p.1.1, ⟨(0, []), Nat.zero_le _, by simp⟩, ?_, ?_⟩
  · refine weak_shift (.joinO [] (Gs := []) trivial rfl (.refl _)) ?_
    refine weak_mk [1, 0, 2] ?_ ?_ ?_ ?_ ?_ rfl rfl
    · repeat (first | exact trivial | refine ⟨⟨_, rfl, (by first | exact .of rfl | exact .lit rfl | exact .of (by first | ((simp))) | exact .lit (by first | ((simp)))), (by first | exact trivial | exact Nat.le_of_ble_eq_true rfl | exact small1 rfl)⟩, ?_⟩)
    · repeat (first | exact trivial | refine ⟨⟨(by first | exact .head _ | exact .tail _ (.head _) | exact .tail _ (.tail _ (.head _)) | exact .tail _ (.tail _ (.tail _ (.head _))) | exact .tail _ (.tail _ (.tail _ (.tail _ (.head _)))) | exact .tail _ (.tail _ (.tail _ (.tail _ (.tail _ (.head _))))) | exact .tail _ (.tail _ (.tail _ (.tail _ (.tail _ (.tail _ (.head _)))))) | exact .tail _ (.tail _ (.tail _ (.tail _ (.tail _ (.tail _ (.tail _ (.head _))))))) | exact .tail _ (.tail _ (.tail _ (.tail _ (.tail _ (.tail _ (.tail _ (.tail _ (.head _)))))))) | exact .tail _ (.tail _ (.tail _ (.tail _ (.tail _ (.tail _ (.tail _ (.tail _ (.tail _ (.head _)))))))))), Nat.le_of_ble_eq_true rfl⟩, ?_⟩)
    · repeat (first | exact trivial | refine ⟨⟨_, rfl, (by first | exact .of rfl | exact .lit rfl | exact .of (by first | ((simp))) | exact .lit (by first | ((simp)))), (by first | exact trivial | exact Nat.le_of_ble_eq_true rfl | exact small1 rfl)⟩, ?_⟩)
    · repeat (first | exact trivial | refine ⟨⟨_, rfl⟩, ?_⟩)
    · repeat (first | exact trivial | refine ⟨.inl ⟨_, rfl, (by first | rfl | ((simp)))⟩, ?_⟩ | refine ⟨.inr ⟨Nat.le_of_ble_eq_true rfl, rfl, rfl, rfl, rfl⟩, ?_⟩)
  · rintro ⟨⟨k, ys⟩, hk, hy⟩
    simp only at hk hy
    have hyl : ys.length = k := by have := congrArg List.length hy; simp at this; omega
    refine CaseB.mk (fun g => ?_) (fun g => ?_)
    · have hlt : k < xs.length := by simpa using g
      have hlt2 : k < (ys ++ List.replicate (xs.length - k) BarrierH0).length := by simp; omega
      refine stop_idx encBarrierH tabOk rfl rfl rfl rfl rfl ⟨rfl, rfl⟩ (rdVia 2 rfl (.ofR nest_h)) k rfl (by first | omega | (simp; done) | (simp; omega) | (unfold maxLen; omega) | (unfold maxLen; simp; done) | (unfold maxLen; simp; omega)) (fun ad => ?_)
      refine stop_call _ cl65 rfl rfl rfl rfl ⟨rfl, rfl⟩ (fun A w hW => toBarrier_c _ _ w ⟨hW.get 2 rfl (.ofR (barriersO_0 h xs k hlt)), trivial⟩ (hb _ (List.getElem_mem hlt))) ?_
      rintro v L ⟨y0, rfl, rfl⟩
      generalize hx : (⟨xs[k].m, y0⟩ : BarrierH) = x
      have hxm : x.m = xs[k].m := by rw [← hx]
      have hT : (ys ++ List.replicate (xs.length - k) BarrierH0).set k x = (ys ++ [x]) ++ List.replicate (xs.length - (k + 1)) BarrierH0 := by
        rw [List.set_append_right _ _ (by omega), show k - ys.length = 0 by omega, show xs.length - k = (xs.length - (k + 1)) + 1 by omega, List.replicate_succ, List.append_assoc]
        rfl
      generalize hq : (ys ++ List.replicate (xs.length - k) BarrierH0) = Q at hT hlt2
      refine stop_idxW encBarrierH 1 tabOk rfl rfl rfl rfl rfl ⟨rfl, rfl⟩ rfl (by first | rfl | (simp; done)) k rfl hlt2 (fun g1 hg1 => ?_)
      refine stop_storeW encBarrierH 1 tabOk rfl rfl rfl rfl rfl rfl rfl rfl hg1 k 0 x rfl hlt2 rfl (cBarrierH x) (fun _ => by rw [← hx]; rfl) (by rw [List.drop_eq_nil_of_le (by exact Nat.le_refl _)]; simp) ?_
      have hw := e_succ k _ hlt (by omega)
      refine ⟨⟨(k + 1, ys ++ [x]), hlt, by rw [List.map_append]; exact map_take_succ hlt hy hxm⟩, ?_, by simp only; omega⟩
      refine weak_shift (.joinO [1, 2] (Gs := [[_], _]) ⟨.inl ⟨_, rfl, .own⟩, .inl ⟨_, rfl, .o⟩, trivial⟩ rfl (G := (ys ++ [x]).flatMap barrierO) (by subst hx; rw [List.flatMap_append]; exact (List.Perm.of_eq (by simp [barrierO])).trans List.perm_append_comm)) ?_
      refine weak_mk [1, 0, 2] ?_ ?_ ?_ ?_ ?_ rfl rfl
      · repeat (first | exact trivial | refine ⟨⟨_, rfl, (by first | exact .of rfl | exact .lit rfl | exact .of (by first | ((first | (rw [hT]; done) | (simp only; done) | exact congrArg (fun z => SV.v (Value.int .i64 z)) hw | (rw [← hT]; simp)))) | exact .lit (by first | ((first | (rw [hT]; done) | (simp only [hT]; done) | exact congrArg (fun z => SV.v (Value.int .i64 z)) hw | (rw [← hT]; simp))))), (by first | exact trivial | exact Nat.le_of_ble_eq_true rfl | exact small1 rfl)⟩, ?_⟩)
      · repeat (first | exact trivial | refine ⟨⟨(by first | exact .head _ | exact .tail _ (.head _) | exact .tail _ (.tail _ (.head _)) | exact .tail _ (.tail _ (.tail _ (.head _))) | exact .tail _ (.tail _ (.tail _ (.tail _ (.head _)))) | exact .tail _ (.tail _ (.tail _ (.tail _ (.tail _ (.head _))))) | exact .tail _ (.tail _ (.tail _ (.tail _ (.tail _ (.tail _ (.head _)))))) | exact .tail _ (.tail _ (.tail _ (.tail _ (.tail _ (.tail _ (.tail _ (.head _))))))) | exact .tail _ (.tail _ (.tail _ (.tail _ (.tail _ (.tail _ (.tail _ (.tail _ (.head _)))))))) | exact .tail _ (.tail _ (.tail _ (.tail _ (.tail _ (.tail _ (.tail _ (.tail _ (.tail _ (.head _)))))))))), Nat.le_of_ble_eq_true rfl⟩, ?_⟩)
      · repeat (first | exact trivial | refine ⟨⟨_, rfl, (by first | exact .of rfl | exact .lit rfl | exact .of (by first | ((first | (rw [hT]; done) | (simp only [hT]; done) | exact congrArg (fun z => SV.v (Value.int .i64 z)) hw | (rw [← hT]; simp)))) | exact .lit (by first | ((first | (rw [hT]; done) | (simp only [hT]; done) | exact congrArg (fun z => SV.v (Value.int .i64 z)) hw | (rw [← hT]; simp))))), (by first | exact trivial | exact Nat.le_of_ble_eq_true rfl | exact small1 rfl)⟩, ?_⟩)
      · repeat (first | exact trivial | refine ⟨⟨_, rfl⟩, ?_⟩)
      · repeat (first | exact trivial | refine ⟨.inl ⟨_, rfl, (by first | rfl | ((first | (rw [hT]; done) | (simp only [hT]; done) | exact congrArg (fun z => SV.v (Value.int .i64 z)) hw | (rw [← hT]; simp))))⟩, ?_⟩ | refine ⟨.inr ⟨Nat.le_of_ble_eq_true rfl, rfl, rfl, rfl, rfl⟩, ?_⟩)
    · have hge : xs.length ≤ k := by simpa using g
      have hT : ys ++ List.replicate (xs.length - k) BarrierH0 = ys := by rw [show xs.length - k = 0 by omega]; simp
      simp only [hT]
      refine ret_shift (.joinO [0, 1] (Gs := [[_], _]) ⟨.inl ⟨_, rfl, .own⟩, .inl ⟨_, rfl, .o⟩, trivial⟩ rfl (G := barriersO y ys) (.of_eq (by simp [barriersO, nestO]))) ?_
      exact retw [0] ⟨y, ys, rfl, by rw [hy, List.take_of_length_le (by simpa using hge)], rfl⟩ ⟨.inl ⟨_, rfl, rfl⟩, trivial⟩ rfl ⟨rfl, trivial⟩ (fun _ => rfl)

set_option maxRecDepth 100000 in
theorem eqBarrierS_c (h h2 : Sl) (xs ys : List BarrierH) (w : World) (hh : At w [fR (barriersO h xs), fR (barriersO h2 ys)]) (hl : xs.length ≤ 1048576) (hb : ∀ x ∈ xs, Barrier.small20 x.m) (hb2 : ∀ x ∈ ys, Barrier.small20 x.m) :
    Calls Tryz.prog 38 #[h.val xs.length, h2.val ys.length] w (Ret w fun v L => v = .bool (decide (xs.map (·.m) = ys.map (·.m))) ∧ L = []) := by
  refine calls2 Tryz.func38 rfl tabOk w _ rfl _ rfl _ hh ⟨rfl, rfl, rfl, rfl, trivial⟩ _ _ (by decide) ?_
  refine CaseB.mk (fun g => ?_) (fun g => ?_)
  · have hne : xs.map (·.m) ≠ ys.map (·.m) := fun e => by
      have := congrArg List.length e
      simp at this g
      omega
    refine retw [] ⟨?_, rfl⟩ trivial rfl trivial (fun _ => rfl)
    simp [hne]
  · have hll : xs.length = ys.length := by simp at g; omega
    refine LoopW.mk ⟨{ k : Nat // k ≤ xs.length ∧ (xs.map (·.m)).take k = (ys.map (·.m)).take k },
      fun p => .mk [(0, .v (h.val xs.length)), (1, .v (h2.val ys.length)), (5, .v (.int .i64 p.1))] 0 0 [] [] [fR (barriersO h xs), fR (barriersO h2 ys)],
      fun p => xs.length - p.1, ⟨0, Nat.zero_le _, rfl⟩, ?_, ?_⟩
    · refine weak_mk [0, 1] ?_ ?_ ?_ ?_ ?_ rfl rfl
      · repeat (first | exact trivial | refine ⟨⟨_, rfl, (by first | exact .of rfl | exact .lit rfl | exact .of (by first | (rfl)) | exact .lit (by first | (rfl))), (by first | exact trivial | exact Nat.le_of_ble_eq_true rfl | exact small1 rfl)⟩, ?_⟩)
      · repeat (first | exact trivial | refine ⟨⟨(by first | exact .head _ | exact .tail _ (.head _) | exact .tail _ (.tail _ (.head _)) | exact .tail _ (.tail _ (.tail _ (.head _))) | exact .tail _ (.tail _ (.tail _ (.tail _ (.head _)))) | exact .tail _ (.tail _ (.tail _ (.tail _ (.tail _ (.head _))))) | exact .tail _ (.tail _ (.tail _ (.tail _ (.tail _ (.tail _ (.head _)))))) | exact .tail _ (.tail _ (.tail _ (.tail _ (.tail _ (.tail _ (.tail _ (.head _))))))) | exact .tail _ (.tail _ (.tail _ (.tail _ (.tail _ (.tail _ (.tail _ (.tail _ (.head _)))))))) | exact .tail _ (.tail _ (.tail _ (.tail _ (.tail _ (.tail _ (.tail _ (.tail _ (.tail _ (.head _)))))))))), Nat.le_of_ble_eq_true rfl⟩, ?_⟩)
      · repeat (first | exact trivial | refine ⟨⟨_, rfl, (by first | exact .of rfl | exact .lit rfl | exact .of (by first | (rfl)) | exact .lit (by first | (rfl))), (by first | exact trivial | exact Nat.le_of_ble_eq_true rfl | exact small1 rfl)⟩, ?_⟩)
      · repeat (first | exact trivial | refine ⟨⟨_, rfl⟩, ?_⟩)
      · repeat (first | exact trivial | refine ⟨.inl ⟨_, rfl, (by first | rfl | (rfl))⟩, ?_⟩ | refine ⟨.inr ⟨Nat.le_of_ble_eq_true rfl, rfl, rfl, rfl, rfl⟩, ?_⟩)
    · rintro ⟨k, hk, he⟩
      refine CaseB.mk (fun g2 => ?_) (fun g2 => ?_)
      · have hlt : k < xs.length := by simpa using g2
        have hlt2 : k < ys.length := by omega
        obtain ⟨q1, q2⟩ := take_eq_succ he (by simpa using hlt) (by simpa using hlt2)
        simp only [List.getElem_map] at q1 q2
        refine draw_start tabOk (by kernel_rfl) (by kernel_rfl) (by kernel_rfl) 200 [] [0, 1] [_, _] trivial trivial ⟨rfl, rfl, trivial⟩ rfl ?_
        refine d_idx (ti := tiOf tab) encBarrierH tabOk rfl rfl rfl rfl rfl ⟨rfl, rfl⟩ (rdVia 0 rfl (.ofR nest_h)) k rfl (by first | omega | (simp; done) | (simp; omega) | (unfold maxLen; omega) | (unfold maxLen; simp; done) | (unfold maxLen; simp; omega)) (fun ad => ?_)
        refine d_idx (ti := tiOf tab) encBarrierH tabOk rfl rfl rfl rfl rfl ⟨rfl, rfl⟩ (rdVia 1 rfl (.ofR nest_h)) k rfl (by first | omega | (simp; done) | (simp; omega) | (unfold maxLen; omega) | (unfold maxLen; simp; done) | (unfold maxLen; simp; omega)) (fun ad2 => ?_)
        refine d_call _ cl75 rfl rfl rfl rfl ⟨rfl, rfl⟩ (fun A w hW => eqBarrier_c _ _ _ _ w ⟨hW.get 0 rfl (.ofR (barriersO_0 h xs k hlt)), hW.get 1 rfl (.ofR (barriersO_0 h2 ys k hlt2)), trivial⟩ (hb _ (List.getElem_mem hlt)) (hb2 _ (List.getElem_mem hlt2))) ?_
        rintro v L ⟨rfl, rfl⟩
        refine CaseB.mk (fun g3 => ?_) (fun g3 => ?_)
        · have hne := q2 (by simpa using g3)
          refine retw [] ⟨?_, rfl⟩ trivial rfl trivial (fun _ => rfl)
          simp [hne]
        · have heq := q1 (by simpa using g3)
          have hw := e_succ k _ hlt (by omega)
          refine ⟨⟨k + 1, by omega, heq⟩, ?_, by simp; omega⟩
          refine weak_mk [0, 1] ?_ ?_ ?_ ?_ ?_ rfl rfl
          · repeat (first | exact trivial | refine ⟨⟨_, rfl, (by first | exact .of rfl | exact .lit rfl | exact .of (by first | ((exact congrArg (fun z => SV.v (Value.int .i64 z)) hw))) | exact .lit (by first | ((exact congrArg (fun z => SV.v (Value.int .i64 z)) hw)))), (by first | exact trivial | exact Nat.le_of_ble_eq_true rfl | exact small1 rfl)⟩, ?_⟩)
          · repeat (first | exact trivial | refine ⟨⟨(by first | exact .head _ | exact .tail _ (.head _) | exact .tail _ (.tail _ (.head _)) | exact .tail _ (.tail _ (.tail _ (.head _))) | exact .tail _ (.tail _ (.tail _ (.tail _ (.head _)))) | exact .tail _ (.tail _ (.tail _ (.tail _ (.tail _ (.head _))))) | exact .tail _ (.tail _ (.tail _ (.tail _ (.tail _ (.tail _ (.head _)))))) | exact .tail _ (.tail _ (.tail _ (.tail _ (.tail _ (.tail _ (.tail _ (.head _))))))) | exact .tail _ (.tail _ (.tail _ (.tail _ (.tail _ (.tail _ (.tail _ (.tail _ (.head _)))))))) | exact .tail _ (.tail _ (.tail _ (.tail _ (.tail _ (.tail _ (.tail _ (.tail _ (.tail _ (.head _)))))))))), Nat.le_of_ble_eq_true rfl⟩, ?_⟩)
          · repeat (first | exact trivial | refine ⟨⟨_, rfl, (by first | exact .of rfl | exact .lit rfl | exact .of (by first | ((exact congrArg (fun z => SV.v (Value.int .i64 z)) hw))) | exact .lit (by first | ((exact congrArg (fun z => SV.v (Value.int .i64 z)) hw)))), (by first | exact trivial | exact Nat.le_of_ble_eq_true rfl | exact small1 rfl)⟩, ?_⟩)
          · repeat (first | exact trivial | refine ⟨⟨_, rfl⟩, ?_⟩)
          · repeat (first | exact trivial | refine ⟨.inl ⟨_, rfl, (by first | rfl | ((exact congrArg (fun z => SV.v (Value.int .i64 z)) hw)))⟩, ?_⟩ | refine ⟨.inr ⟨Nat.le_of_ble_eq_true rfl, rfl, rfl, rfl, rfl⟩, ?_⟩)
      · have hge : xs.length ≤ k := by simpa using g2
        have heq : xs.map (·.m) = ys.map (·.m) := by rw [List.take_of_length_le (by simpa using hge), List.take_of_length_le (by simp; omega)] at he; exact he
        refine retw [] ⟨?_, rfl⟩ trivial rfl trivial (fun _ => rfl)
        simp [heq]

end Go.Proofs.YtchkcjeeknfchaaGreatDoor

namespace Go.Proofs.YtchkcjeeknfchaaGreatDoor

open Go Go.Sx Go.RowKit

theorem encLetter : Enc cLet 2 := encLet

def Letter0 : Letter := ⟨0, 0⟩

end Go.Proofs.YtchkcjeeknfchaaGreatDoor

namespace Go.Proofs.YtchkcjeeknfchaaGreatDoor

open Go Go.Sx Go.RowKit

set_option maxRecDepth 100000 in
theorem szLetterS_c (i : Sl) (xs : List Letter) (left : Int) (w : World) (h : At w [slo i cLet 2 xs]) (h0 : -1 ≤ left) (h1 : left ≤ 1048576) :
    Calls Tryz.prog 101 #[i.val xs.length, .int .i64 left] w (Ret w fun v L => v = .int .i64 (szN xs.length left) ∧ L = []) := by
  obtain ⟨⟨⟨_, b1, b2, _⟩, _⟩, _⟩ := h
  unfold maxLen at b2
  have e : IntKind.i64.wrap (left - (xs.length : Int)) = left - xs.length := e_wrap (by omega) (by omega)
  refine calls2 Tryz.func101 rfl tabOk w _ rfl _ rfl [] trivial trivial _ _ (by decide) ?_
  refine CaseB.mk (fun h => ?_) (fun h => ?_)
  · rw [e] at h
    have h2 : left - (xs.length : Int) < 0 := by simpa using h
    exact retw [] ⟨by rw [szN, if_pos h2], rfl⟩ trivial rfl trivial (fun _ => rfl)
  · rw [e] at h
    have h2 : ¬ left - (xs.length : Int) < 0 := by simpa using h
    refine retw [] ⟨by rw [szN, if_neg h2], rfl⟩ trivial rfl trivial (fun _ => ?_)
    simp only [resV, SV.den, e]

set_option maxRecDepth 100000 in
theorem toLetter_c (x : Letter) (w : World) : Calls Tryz.prog 127 #[.agg (cLet x).toArray] w (Ret w fun v L => v = .agg (cLet x).toArray ∧ L = []) := by
  refine calls1 Tryz.func127 rfl tabOk w _ rfl _ rfl [] trivial trivial _ (by decide) ?_
  exact retw [] ⟨rfl, rfl⟩ trivial rfl trivial (fun _ => rfl)

set_option maxRecDepth 100000 in
theorem toLetterS_c (i : Sl) (xs : List Letter) (w : World) (h : At w [slo i cLet 2 xs]) (hb : xs.length ≤ 1048576) :
    Calls Tryz.prog 104 #[i.val xs.length] w (Ret w fun v L => ∃ y : Sl, v = y.val xs.length ∧ L = [own y 164 cLet 2 xs]) := by
  refine calls1 Tryz.func104 rfl tabOk w _ rfl _ rfl _ h ⟨rfl, rfl, trivial⟩ _ (by decide) ?_
  refine stop_make encLetter Letter0 tabOk rfl rfl rfl rfl rfl (by decide) ⟨rfl, rfl⟩ xs.length rfl (by first | omega | (simp; done) | (simp; omega) | (unfold maxLen; omega) | (unfold maxLen; simp; done) | (unfold maxLen; simp; omega)) (by first | omega | (simp; done) | (simp; omega) | (unfold maxLen; omega) | (unfold maxLen; simp; done) | (unfold maxLen; simp; omega)) (fun y => ?_)
  refine LoopW.mk ⟨{ k : Nat // k ≤ xs.length },
    fun k => .mk [(0, .v (i.val xs.length)), (3, .v (y.val (xs.take k.1 ++ List.replicate (xs.length - k.1) Letter0).length)), (4, .v (.int .i64 (k.1 : Int)))] 0 0 [] [] [own y 164 cLet 2 (xs.take k.1 ++ List.replicate (xs.length - k.1) Letter0), slo i cLet 2 xs],
    fun k => xs.length - k.1, ⟨0, Nat.zero_le _⟩, ?_, ?_⟩
  · refine weak_mk [0, 1] ?_ ?_ ?_ ?_ ?_ rfl rfl
    · repeat (first | exact trivial | refine ⟨⟨_, rfl, (by first | exact .of rfl | exact .lit rfl | exact .of (by first | ((simp))) | exact .lit (by first | ((simp)))), (by first | exact trivial | exact Nat.le_of_ble_eq_true rfl | exact small1 rfl)⟩, ?_⟩)
    · repeat (first | exact trivial | refine ⟨⟨(by first | exact .head _ | exact .tail _ (.head _) | exact .tail _ (.tail _ (.head _)) | exact .tail _ (.tail _ (.tail _ (.head _))) | exact .tail _ (.tail _ (.tail _ (.tail _ (.head _)))) | exact .tail _ (.tail _ (.tail _ (.tail _ (.tail _ (.head _))))) | exact .tail _ (.tail _ (.tail _ (.tail _ (.tail _ (.tail _ (.head _)))))) | exact .tail _ (.tail _ (.tail _ (.tail _ (.tail _ (.tail _ (.tail _ (.head _))))))) | exact .tail _ (.tail _ (.tail _ (.tail _ (.tail _ (.tail _ (.tail _ (.tail _ (.head _)))))))) | exact .tail _ (.tail _ (.tail _ (.tail _ (.tail _ (.tail _ (.tail _ (.tail _ (.tail _ (.head _)))))))))), Nat.le_of_ble_eq_true rfl⟩, ?_⟩)
    · repeat (first | exact trivial | refine ⟨⟨_, rfl, (by first | exact .of rfl | exact .lit rfl | exact .of (by first | ((simp))) | exact .lit (by first | ((simp)))), (by first | exact trivial | exact Nat.le_of_ble_eq_true rfl | exact small1 rfl)⟩, ?_⟩)
    · repeat (first | exact trivial | refine ⟨⟨_, rfl⟩, ?_⟩)
    · repeat (first | exact trivial | refine ⟨.inl ⟨_, rfl, (by first | rfl | ((simp)))⟩, ?_⟩ | refine ⟨.inr ⟨Nat.le_of_ble_eq_true rfl, rfl, rfl, rfl, rfl⟩, ?_⟩)
  · rintro ⟨k, hk⟩
    refine CaseB.mk (fun h => ?_) (fun h => ?_)
    · have hlt : k < xs.length := by simpa using h
      have hT : (xs.take k ++ List.replicate (xs.length - k) Letter0).set k xs[k] = xs.take (k + 1) ++ List.replicate (xs.length - (k + 1)) Letter0 := by
        rw [List.set_append_right _ _ (by simp; omega), List.take_succ_eq_append_getElem hlt, show k - (List.take k xs).length = 0 by simp; omega, show xs.length - k = (xs.length - (k + 1)) + 1 by omega, List.replicate_succ, List.append_assoc]
        rfl
      refine stop_idx encLetter tabOk rfl rfl rfl rfl rfl ⟨rfl, rfl⟩ (by first | exact rdAt 0 rfl | exact rdOwnAt 0 rfl | exact rdAt 1 rfl | exact rdOwnAt 1 rfl | exact rdAt 2 rfl | exact rdOwnAt 2 rfl | exact rdAt 3 rfl | exact rdOwnAt 3 rfl | exact rdAt 4 rfl | exact rdOwnAt 4 rfl | exact rdAt 5 rfl | exact rdOwnAt 5 rfl | exact rdAt 6 rfl | exact rdOwnAt 6 rfl | exact rdAt 7 rfl | exact rdOwnAt 7 rfl | exact rdAt 8 rfl | exact rdOwnAt 8 rfl | exact rdAt 9 rfl | exact rdOwnAt 9 rfl | exact rdAt 10 rfl | exact rdOwnAt 10 rfl | exact rdAt 11 rfl | exact rdOwnAt 11 rfl | exact rdAt 12 rfl | exact rdOwnAt 12 rfl | exact rdAt 13 rfl | exact rdOwnAt 13 rfl | exact rdAt 14 rfl | exact rdOwnAt 14 rfl | exact rdAt 15 rfl | exact rdOwnAt 15 rfl | exact rdAt 16 rfl | exact rdOwnAt 16 rfl | exact rdAt 17 rfl | exact rdOwnAt 17 rfl | exact rdAt 18 rfl | exact rdOwnAt 18 rfl | exact rdAt 19 rfl | exact rdOwnAt 19 rfl | exact rdAt 20 rfl | exact rdOwnAt 20 rfl | exact rdAt 21 rfl | exact rdOwnAt 21 rfl | exact rdAt 22 rfl | exact rdOwnAt 22 rfl | exact rdAt 23 rfl | exact rdOwnAt 23 rfl) k rfl (by first | omega | (simp; done) | (simp; omega) | (unfold maxLen; omega) | (unfold maxLen; simp; done) | (unfold maxLen; simp; omega)) (fun ad => ?_)
      refine stop_call _ cl127 rfl rfl rfl rfl ⟨rfl, rfl⟩ (fun A w hW => toLetter_c _ w) ?_
      rintro v L ⟨rfl, rfl⟩
      refine stop_idxW encLetter 0 tabOk rfl rfl rfl rfl rfl ⟨rfl, rfl⟩ rfl (by first | rfl | (simp; done)) k rfl (by first | omega | (simp; done) | (simp; omega) | (unfold maxLen; omega) | (unfold maxLen; simp; done) | (unfold maxLen; simp; omega)) (fun g hg => ?_)
      refine stop_storeW encLetter 0 tabOk rfl rfl rfl rfl rfl rfl rfl rfl hg k 0 (xs[k]) rfl (by first | omega | (simp; done) | (simp; omega) | (unfold maxLen; omega) | (unfold maxLen; simp; done) | (unfold maxLen; simp; omega)) rfl (cLet xs[k]) (fun _ => rfl) rfl ?_
      have hw := e_succ k _ hlt (by omega)
      refine ⟨⟨k + 1, by omega⟩, ?_, by simp; omega⟩
      refine weak_mk [0, 1] ?_ ?_ ?_ ?_ ?_ rfl rfl
      · repeat (first | exact trivial | refine ⟨⟨_, rfl, (by first | exact .of rfl | exact .lit rfl | exact .of (by first | ((first | (rw [hT]; done) | (simp only; done) | exact congrArg (fun z => SV.v (Value.int .i64 z)) hw | (rw [← hT]; simp)))) | exact .lit (by first | ((first | (rw [hT]; done) | (simp only [hT]; done) | exact congrArg (fun z => SV.v (Value.int .i64 z)) hw | (rw [← hT]; simp))))), (by first | exact trivial | exact Nat.le_of_ble_eq_true rfl | exact small1 rfl)⟩, ?_⟩)
      · repeat (first | exact trivial | refine ⟨⟨(by first | exact .head _ | exact .tail _ (.head _) | exact .tail _ (.tail _ (.head _)) | exact .tail _ (.tail _ (.tail _ (.head _))) | exact .tail _ (.tail _ (.tail _ (.tail _ (.head _)))) | exact .tail _ (.tail _ (.tail _ (.tail _ (.tail _ (.head _))))) | exact .tail _ (.tail _ (.tail _ (.tail _ (.tail _ (.tail _ (.head _)))))) | exact .tail _ (.tail _ (.tail _ (.tail _ (.tail _ (.tail _ (.tail _ (.head _))))))) | exact .tail _ (.tail _ (.tail _ (.tail _ (.tail _ (.tail _ (.tail _ (.tail _ (.head _)))))))) | exact .tail _ (.tail _ (.tail _ (.tail _ (.tail _ (.tail _ (.tail _ (.tail _ (.tail _ (.head _)))))))))), Nat.le_of_ble_eq_true rfl⟩, ?_⟩)
      · repeat (first | exact trivial | refine ⟨⟨_, rfl, (by first | exact .of rfl | exact .lit rfl | exact .of (by first | ((first | (rw [hT]; done) | (simp only [hT]; done) | exact congrArg (fun z => SV.v (Value.int .i64 z)) hw | (rw [← hT]; simp)))) | exact .lit (by first | ((first | (rw [hT]; done) | (simp only [hT]; done) | exact congrArg (fun z => SV.v (Value.int .i64 z)) hw | (rw [← hT]; simp))))), (by first | exact trivial | exact Nat.le_of_ble_eq_true rfl | exact small1 rfl)⟩, ?_⟩)
      · repeat (first | exact trivial | refine ⟨⟨_, rfl⟩, ?_⟩)
      · repeat (first | exact trivial | refine ⟨.inl ⟨_, rfl, (by first | rfl | ((first | (rw [hT]; done) | (simp only [hT]; done) | exact congrArg (fun z => SV.v (Value.int .i64 z)) hw | (rw [← hT]; simp))))⟩, ?_⟩ | refine ⟨.inr ⟨Nat.le_of_ble_eq_true rfl, rfl, rfl, rfl, rfl⟩, ?_⟩)
    · have hge : xs.length ≤ k := by simpa using h
      have hT : xs.take k ++ List.replicate (xs.length - k) Letter0 = xs := by rw [List.take_of_length_le hge, show xs.length - k = 0 by omega]; simp
      exact retw [0] ⟨y, rfl, rfl⟩ ⟨.inl ⟨_, rfl, (by first | rfl | ((simp only [hT])))⟩, trivial⟩ rfl ⟨rfl, trivial⟩ (fun _ => (by first | rfl | ((simp only [hT, resV, SV.den]))))

set_option maxRecDepth 100000 in
theorem eqLetter_c (x y : Letter) (w : World) : Calls Tryz.prog 135 #[.agg (cLet x).toArray, .agg (cLet y).toArray] w (Ret w fun v L => v = .bool (decide (x = y)) ∧ L = []) := by
  have hx : ∀ {a b : Letter}, a = b ↔ a.t = b.t ∧ a.v = b.v := fun {a b} => ⟨fun h => by subst h; exact ⟨rfl, rfl⟩, fun h => by cases a; cases b; simp_all⟩
  refine calls2 Tryz.func135 rfl tabOk w _ rfl _ rfl [] trivial trivial _ _ (by decide) ?_
  refine CaseB.mk (fun h0 => ?_) (fun h0 => ?_)
  · have g : ¬ x = y := fun e => by subst e; simp at h0
    exact retw [] ⟨by simp [g], rfl⟩ trivial rfl trivial (fun _ => rfl)
  refine CaseB.mk (fun h1 => ?_) (fun h1 => ?_)
  · have g : ¬ x = y := fun e => by subst e; simp at h1
    exact retw [] ⟨by simp [g], rfl⟩ trivial rfl trivial (fun _ => rfl)
  · have g : x = y := hx.2 ⟨by simpa using h0, by simpa using h1⟩
    exact retw [] ⟨by simp [g], rfl⟩ trivial rfl trivial (fun _ => rfl)

set_option maxRecDepth 100000 in
theorem eqLetterS_c (i j : Sl) (xs ys : List Letter) (w : World) (h : At w [slo i cLet 2 xs, slo j cLet 2 ys]) (hb : xs.length ≤ 4294967296) (hb2 : ys.length ≤ 4294967296) :
    Calls Tryz.prog 110 #[i.val xs.length, j.val ys.length] w (Ret w fun v L => v = .bool (decide (xs = ys)) ∧ L = []) := by
  refine calls2 Tryz.func110 rfl tabOk w _ rfl _ rfl _ h ⟨rfl, rfl, rfl, rfl, trivial⟩ _ _ (by decide) ?_
  refine CaseB.mk (fun h => ?_) (fun h => ?_)
  · have hne : xs ≠ ys := by rintro rfl; simp at h
    refine retw [] ⟨?_, rfl⟩ trivial rfl trivial (fun _ => rfl)
    simp [hne]
  · have hl : xs.length = ys.length := by simp at h; omega
    refine LoopW.mk ⟨{ k : Nat // k ≤ xs.length ∧ xs.take k = ys.take k },
      fun p => .mk [(0, .v (i.val xs.length)), (1, .v (j.val ys.length)), (5, .v (.int .i64 p.1))] 0 0 [] [] [slo i cLet 2 xs, slo j cLet 2 ys],
      fun p => xs.length - p.1, ⟨0, Nat.zero_le _, rfl⟩, ?_, ?_⟩
    · refine weak_mk [0, 1] ?_ ?_ ?_ ?_ ?_ rfl rfl
      · repeat (first | exact trivial | refine ⟨⟨_, rfl, (by first | exact .of rfl | exact .lit rfl | exact .of (by first | (rfl)) | exact .lit (by first | (rfl))), (by first | exact trivial | exact Nat.le_of_ble_eq_true rfl | exact small1 rfl)⟩, ?_⟩)
      · repeat (first | exact trivial | refine ⟨⟨(by first | exact .head _ | exact .tail _ (.head _) | exact .tail _ (.tail _ (.head _)) | exact .tail _ (.tail _ (.tail _ (.head _))) | exact .tail _ (.tail _ (.tail _ (.tail _ (.head _)))) | exact .tail _ (.tail _ (.tail _ (.tail _ (.tail _ (.head _))))) | exact .tail _ (.tail _ (.tail _ (.tail _ (.tail _ (.tail _ (.head _)))))) | exact .tail _ (.tail _ (.tail _ (.tail _ (.tail _ (.tail _ (.tail _ (.head _))))))) | exact .tail _ (.tail _ (.tail _ (.tail _ (.tail _ (.tail _ (.tail _ (.tail _ (.head _)))))))) | exact .tail _ (.tail _ (.tail _ (.tail _ (.tail _ (.tail _ (.tail _ (.tail _ (.tail _ (.head _)))))))))), Nat.le_of_ble_eq_true rfl⟩, ?_⟩)
      · repeat (first | exact trivial | refine ⟨⟨_, rfl, (by first | exact .of rfl | exact .lit rfl | exact .of (by first | (rfl)) | exact .lit (by first | (rfl))), (by first | exact trivial | exact Nat.le_of_ble_eq_true rfl | exact small1 rfl)⟩, ?_⟩)
      · repeat (first | exact trivial | refine ⟨⟨_, rfl⟩, ?_⟩)
      · repeat (first | exact trivial | refine ⟨.inl ⟨_, rfl, (by first | rfl | (rfl))⟩, ?_⟩ | refine ⟨.inr ⟨Nat.le_of_ble_eq_true rfl, rfl, rfl, rfl, rfl⟩, ?_⟩)
    · rintro ⟨k, hk, he⟩
      refine CaseB.mk (fun h => ?_) (fun h => ?_)
      · have hlt : k < xs.length := by simpa using h
        have hlt2 : k < ys.length := by omega
        obtain ⟨q1, q2⟩ := e_take he hlt hlt2
        refine draw_start tabOk (by kernel_rfl) (by kernel_rfl) (by kernel_rfl) 200 [] [0, 1] [_, _] trivial trivial ⟨rfl, rfl, trivial⟩ rfl ?_
        refine d_idx (ti := tiOf tab) encLetter tabOk rfl rfl rfl rfl rfl ⟨rfl, rfl⟩ (by first | exact rdAt 0 rfl | exact rdOwnAt 0 rfl | exact rdAt 1 rfl | exact rdOwnAt 1 rfl | exact rdAt 2 rfl | exact rdOwnAt 2 rfl | exact rdAt 3 rfl | exact rdOwnAt 3 rfl | exact rdAt 4 rfl | exact rdOwnAt 4 rfl | exact rdAt 5 rfl | exact rdOwnAt 5 rfl | exact rdAt 6 rfl | exact rdOwnAt 6 rfl | exact rdAt 7 rfl | exact rdOwnAt 7 rfl | exact rdAt 8 rfl | exact rdOwnAt 8 rfl | exact rdAt 9 rfl | exact rdOwnAt 9 rfl | exact rdAt 10 rfl | exact rdOwnAt 10 rfl | exact rdAt 11 rfl | exact rdOwnAt 11 rfl | exact rdAt 12 rfl | exact rdOwnAt 12 rfl | exact rdAt 13 rfl | exact rdOwnAt 13 rfl | exact rdAt 14 rfl | exact rdOwnAt 14 rfl | exact rdAt 15 rfl | exact rdOwnAt 15 rfl | exact rdAt 16 rfl | exact rdOwnAt 16 rfl | exact rdAt 17 rfl | exact rdOwnAt 17 rfl | exact rdAt 18 rfl | exact rdOwnAt 18 rfl | exact rdAt 19 rfl | exact rdOwnAt 19 rfl | exact rdAt 20 rfl | exact rdOwnAt 20 rfl | exact rdAt 21 rfl | exact rdOwnAt 21 rfl | exact rdAt 22 rfl | exact rdOwnAt 22 rfl | exact rdAt 23 rfl | exact rdOwnAt 23 rfl) k rfl (by first | omega | (simp; done) | (simp; omega) | (unfold maxLen; omega) | (unfold maxLen; simp; done) | (unfold maxLen; simp; omega)) (fun ad => ?_)
        refine d_idx (ti := tiOf tab) encLetter tabOk rfl rfl rfl rfl rfl ⟨rfl, rfl⟩ (by first | exact rdAt 0 rfl | exact rdOwnAt 0 rfl | exact rdAt 1 rfl | exact rdOwnAt 1 rfl | exact rdAt 2 rfl | exact rdOwnAt 2 rfl | exact rdAt 3 rfl | exact rdOwnAt 3 rfl | exact rdAt 4 rfl | exact rdOwnAt 4 rfl | exact rdAt 5 rfl | exact rdOwnAt 5 rfl | exact rdAt 6 rfl | exact rdOwnAt 6 rfl | exact rdAt 7 rfl | exact rdOwnAt 7 rfl | exact rdAt 8 rfl | exact rdOwnAt 8 rfl | exact rdAt 9 rfl | exact rdOwnAt 9 rfl | exact rdAt 10 rfl | exact rdOwnAt 10 rfl | exact rdAt 11 rfl | exact rdOwnAt 11 rfl | exact rdAt 12 rfl | exact rdOwnAt 12 rfl | exact rdAt 13 rfl | exact rdOwnAt 13 rfl | exact rdAt 14 rfl | exact rdOwnAt 14 rfl | exact rdAt 15 rfl | exact rdOwnAt 15 rfl | exact rdAt 16 rfl | exact rdOwnAt 16 rfl | exact rdAt 17 rfl | exact rdOwnAt 17 rfl | exact rdAt 18 rfl | exact rdOwnAt 18 rfl | exact rdAt 19 rfl | exact rdOwnAt 19 rfl | exact rdAt 20 rfl | exact rdOwnAt 20 rfl | exact rdAt 21 rfl | exact rdOwnAt 21 rfl | exact rdAt 22 rfl | exact rdOwnAt 22 rfl | exact rdAt 23 rfl | exact rdOwnAt 23 rfl) k rfl (by first | omega | (simp; done) | (simp; omega) | (unfold maxLen; omega) | (unfold maxLen; simp; done) | (unfold maxLen; simp; omega)) (fun ad2 => ?_)
        refine d_call _ cl135 rfl rfl rfl rfl ⟨rfl, rfl⟩ (fun A w hW => eqLetter_c _ _ w) ?_
        rintro v L ⟨rfl, rfl⟩
        refine CaseB.mk (fun h => ?_) (fun h => ?_)
        · have hne := q2 (by simpa using h)
          refine retw [] ⟨?_, rfl⟩ trivial rfl trivial (fun _ => rfl)
          simp [hne]
        · have heq := q1 (by simpa using h)
          have hw := e_succ k _ hlt (by omega)
          refine ⟨⟨k + 1, by omega, heq⟩, ?_, by simp; omega⟩
          refine weak_mk [0, 1] ?_ ?_ ?_ ?_ ?_ rfl rfl
          · repeat (first | exact trivial | refine ⟨⟨_, rfl, (by first | exact .of rfl | exact .lit rfl | exact .of (by first | ((exact congrArg (fun z => SV.v (Value.int .i64 z)) hw))) | exact .lit (by first | ((exact congrArg (fun z => SV.v (Value.int .i64 z)) hw)))), (by first | exact trivial | exact Nat.le_of_ble_eq_true rfl | exact small1 rfl)⟩, ?_⟩)
          · repeat (first | exact trivial | refine ⟨⟨(by first | exact .head _ | exact .tail _ (.head _) | exact .tail _ (.tail _ (.head _)) | exact .tail _ (.tail _ (.tail _ (.head _))) | exact .tail _ (.tail _ (.tail _ (.tail _ (.head _)))) | exact .tail _ (.tail _ (.tail _ (.tail _ (.tail _ (.head _))))) | exact .tail _ (.tail _ (.tail _ (.tail _ (.tail _ (.tail _ (.head _)))))) | exact .tail _ (.tail _ (.tail _ (.tail _ (.tail _ (.tail _ (.tail _ (.head _))))))) | exact .tail _ (.tail _ (.tail _ (.tail _ (.tail _ (.tail _ (.tail _ (.tail _ (.head _)))))))) | exact .tail _ (.tail _ (.tail _ (.tail _ (.tail _ (.tail _ (.tail _ (.tail _ (.tail _ (.head _)))))))))), Nat.le_of_ble_eq_true rfl⟩, ?_⟩)
          · repeat (first | exact trivial | refine ⟨⟨_, rfl, (by first | exact .of rfl | exact .lit rfl | exact .of (by first | ((exact congrArg (fun z => SV.v (Value.int .i64 z)) hw))) | exact .lit (by first | ((exact congrArg (fun z => SV.v (Value.int .i64 z)) hw)))), (by first | exact trivial | exact Nat.le_of_ble_eq_true rfl | exact small1 rfl)⟩, ?_⟩)
          · repeat (first | exact trivial | refine ⟨⟨_, rfl⟩, ?_⟩)
          · repeat (first | exact trivial | refine ⟨.inl ⟨_, rfl, (by first | rfl | ((exact congrArg (fun z => SV.v (Value.int .i64 z)) hw)))⟩, ?_⟩ | refine ⟨.inr ⟨Nat.le_of_ble_eq_true rfl, rfl, rfl, rfl, rfl⟩, ?_⟩)
      · have hge : xs.length ≤ k := by simpa using h
        have heq : xs = ys := by rw [List.take_of_length_le hge, List.take_of_length_le (by omega)] at he; exact he
        refine retw [] ⟨?_, rfl⟩ trivial rfl trivial (fun _ => rfl)
        simp [heq]

end Go.Proofs.YtchkcjeeknfchaaGreatDoor

namespace Go.Proofs.YtchkcjeeknfchaaGreatDoor

open Go Go.Sx Go.RowKit

def Chan.small20 (m : Chan) : Prop := m.items.length ≤ 1048576 ∧ m.senders.length ≤ 1048576 ∧ m.getters.length ≤ 1048576

def szChanM (m : Chan) (left : Int) : Int := szStep m.items.length left fun a0 => szStep m.senders.length a0 fun a1 => szStep m.getters.length a1 fun a2 => a2

theorem szChanM_gen (m : Chan) (l : Int) (hl : l ≤ 1048576) (h : ¬ szChanM m l < 0) : m.small20 ∧ szChanM m l ≤ l := by
  simp only [szChanM, szStep, szN] at h ⊢
  simp only [Chan.small20]
  omega

set_option maxRecDepth 100000 in
theorem szChan_c (m : Chan) (s0 s1 s2 : Sl) (left : Int) (w : World) (h : At w [slo s0 cInt 1 m.items, slo s1 cLet 2 m.senders, slo s2 cInt 1 m.getters]) (h0 : -1 ≤ left) (h1 : left ≤ 1048576) :
    Calls Tryz.prog 60 #[chanV m s0 s1 s2, .int .i64 left] w (Ret w fun v L => v = .int .i64 (szChanM m left) ∧ L = []) := by
  refine calls2 Tryz.func60 rfl tabOk w _ rfl _ rfl _ h ⟨rfl, rfl, rfl, rfl, rfl, rfl, trivial⟩ _ _ (by decide) ?_
  refine stop_call _ cl16 rfl rfl rfl rfl ⟨rfl, rfl⟩ (fun A w hW => szIntS_c s0 m.items left w ⟨(by first | exact hW.rd 0 rfl | exact hW.rdOwn 0 rfl | exact hW.rd 1 rfl | exact hW.rdOwn 1 rfl | exact hW.rd 2 rfl | exact hW.rdOwn 2 rfl | exact hW.rd 3 rfl | exact hW.rdOwn 3 rfl | exact hW.rd 4 rfl | exact hW.rdOwn 4 rfl | exact hW.rd 5 rfl | exact hW.rdOwn 5 rfl | exact hW.rd 6 rfl | exact hW.rdOwn 6 rfl | exact hW.rd 7 rfl | exact hW.rdOwn 7 rfl | exact hW.rd 8 rfl | exact hW.rdOwn 8 rfl | exact hW.rd 9 rfl | exact hW.rdOwn 9 rfl | exact hW.rd 10 rfl | exact hW.rdOwn 10 rfl | exact hW.rd 11 rfl | exact hW.rdOwn 11 rfl | exact hW.rd 12 rfl | exact hW.rdOwn 12 rfl | exact hW.rd 13 rfl | exact hW.rdOwn 13 rfl | exact hW.rd 14 rfl | exact hW.rdOwn 14 rfl | exact hW.rd 15 rfl | exact hW.rdOwn 15 rfl | exact hW.rd 16 rfl | exact hW.rdOwn 16 rfl | exact hW.rd 17 rfl | exact hW.rdOwn 17 rfl | exact hW.rd 18 rfl | exact hW.rdOwn 18 rfl | exact hW.rd 19 rfl | exact hW.rdOwn 19 rfl | exact hW.rd 20 rfl | exact hW.rdOwn 20 rfl | exact hW.rd 21 rfl | exact hW.rdOwn 21 rfl | exact hW.rd 22 rfl | exact hW.rdOwn 22 rfl | exact hW.rd 23 rfl | exact hW.rdOwn 23 rfl), trivial⟩ h0 h1) ?_
  rintro v L ⟨rfl, rfl⟩
  refine CaseB.mk (fun g0 => ?_) (fun g0 => ?_)
  · have q : szN m.items.length (left) < 0 := by simpa using g0
    refine retw [] ⟨?_, rfl⟩ trivial rfl trivial (fun _ => rfl)
    simp [szChanM, szStep, q]
  have q0 : ¬ szN m.items.length (left) < 0 := by simpa using g0
  refine stop_call _ cl101 rfl rfl rfl rfl ⟨rfl, rfl⟩ (fun A w hW => szLetterS_c s1 m.senders (szN m.items.length (left)) w ⟨(by first | exact hW.rd 0 rfl | exact hW.rdOwn 0 rfl | exact hW.rd 1 rfl | exact hW.rdOwn 1 rfl | exact hW.rd 2 rfl | exact hW.rdOwn 2 rfl | exact hW.rd 3 rfl | exact hW.rdOwn 3 rfl | exact hW.rd 4 rfl | exact hW.rdOwn 4 rfl | exact hW.rd 5 rfl | exact hW.rdOwn 5 rfl | exact hW.rd 6 rfl | exact hW.rdOwn 6 rfl | exact hW.rd 7 rfl | exact hW.rdOwn 7 rfl | exact hW.rd 8 rfl | exact hW.rdOwn 8 rfl | exact hW.rd 9 rfl | exact hW.rdOwn 9 rfl | exact hW.rd 10 rfl | exact hW.rdOwn 10 rfl | exact hW.rd 11 rfl | exact hW.rdOwn 11 rfl | exact hW.rd 12 rfl | exact hW.rdOwn 12 rfl | exact hW.rd 13 rfl | exact hW.rdOwn 13 rfl | exact hW.rd 14 rfl | exact hW.rdOwn 14 rfl | exact hW.rd 15 rfl | exact hW.rdOwn 15 rfl | exact hW.rd 16 rfl | exact hW.rdOwn 16 rfl | exact hW.rd 17 rfl | exact hW.rdOwn 17 rfl | exact hW.rd 18 rfl | exact hW.rdOwn 18 rfl | exact hW.rd 19 rfl | exact hW.rdOwn 19 rfl | exact hW.rd 20 rfl | exact hW.rdOwn 20 rfl | exact hW.rd 21 rfl | exact hW.rdOwn 21 rfl | exact hW.rd 22 rfl | exact hW.rdOwn 22 rfl | exact hW.rd 23 rfl | exact hW.rdOwn 23 rfl), trivial⟩ (by simp only [szN]; (repeat' split) <;> omega) (by simp only [szN]; (repeat' split) <;> omega)) ?_
  rintro v L ⟨rfl, rfl⟩
  refine CaseB.mk (fun g1 => ?_) (fun g1 => ?_)
  · have q : szN m.senders.length (szN m.items.length (left)) < 0 := by simpa using g1
    refine retw [] ⟨?_, rfl⟩ trivial rfl trivial (fun _ => rfl)
    simp [szChanM, szStep, q, q0]
  have q1 : ¬ szN m.senders.length (szN m.items.length (left)) < 0 := by simpa using g1
  refine stop_call _ cl16 rfl rfl rfl rfl ⟨rfl, rfl⟩ (fun A w hW => szIntS_c s2 m.getters (szN m.senders.length (szN m.items.length (left))) w ⟨(by first | exact hW.rd 0 rfl | exact hW.rdOwn 0 rfl | exact hW.rd 1 rfl | exact hW.rdOwn 1 rfl | exact hW.rd 2 rfl | exact hW.rdOwn 2 rfl | exact hW.rd 3 rfl | exact hW.rdOwn 3 rfl | exact hW.rd 4 rfl | exact hW.rdOwn 4 rfl | exact hW.rd 5 rfl | exact hW.rdOwn 5 rfl | exact hW.rd 6 rfl | exact hW.rdOwn 6 rfl | exact hW.rd 7 rfl | exact hW.rdOwn 7 rfl | exact hW.rd 8 rfl | exact hW.rdOwn 8 rfl | exact hW.rd 9 rfl | exact hW.rdOwn 9 rfl | exact hW.rd 10 rfl | exact hW.rdOwn 10 rfl | exact hW.rd 11 rfl | exact hW.rdOwn 11 rfl | exact hW.rd 12 rfl | exact hW.rdOwn 12 rfl | exact hW.rd 13 rfl | exact hW.rdOwn 13 rfl | exact hW.rd 14 rfl | exact hW.rdOwn 14 rfl | exact hW.rd 15 rfl | exact hW.rdOwn 15 rfl | exact hW.rd 16 rfl | exact hW.rdOwn 16 rfl | exact hW.rd 17 rfl | exact hW.rdOwn 17 rfl | exact hW.rd 18 rfl | exact hW.rdOwn 18 rfl | exact hW.rd 19 rfl | exact hW.rdOwn 19 rfl | exact hW.rd 20 rfl | exact hW.rdOwn 20 rfl | exact hW.rd 21 rfl | exact hW.rdOwn 21 rfl | exact hW.rd 22 rfl | exact hW.rdOwn 22 rfl | exact hW.rd 23 rfl | exact hW.rdOwn 23 rfl), trivial⟩ (by simp only [szN]; (repeat' split) <;> omega) (by simp only [szN]; (repeat' split) <;> omega)) ?_
  rintro v L ⟨rfl, rfl⟩
  refine CaseB.mk (fun g2 => ?_) (fun g2 => ?_)
  · have q : szN m.getters.length (szN m.senders.length (szN m.items.length (left))) < 0 := by simpa using g2
    refine retw [] ⟨?_, rfl⟩ trivial rfl trivial (fun _ => rfl)
    simp [szChanM, szStep, q, q0, q1]
  have q2 : ¬ szN m.getters.length (szN m.senders.length (szN m.items.length (left))) < 0 := by simpa using g2
  refine retw [] ⟨?_, rfl⟩ trivial rfl trivial (fun _ => rfl)
  simp [szChanM, szStep, q0, q1, q2]

set_option maxRecDepth 100000 in
theorem toChan_c (m : Chan) (s0 s1 s2 : Sl) (w : World) (h : At w [slo s0 cInt 1 m.items, slo s1 cLet 2 m.senders, slo s2 cInt 1 m.getters]) (hb : m.small20) :
    Calls Tryz.prog 66 #[chanV m s0 s1 s2] w (Ret w fun v L => ∃ y0 y1 y2 : Sl, v = chanV m y0 y1 y2 ∧ L = [own y0 3 cInt 1 m.items, own y1 164 cLet 2 m.senders, own y2 3 cInt 1 m.getters]) := by
  obtain ⟨b0, b1, b2⟩ := hb
  refine calls1 Tryz.func66 rfl tabOk w _ rfl _ rfl _ h ⟨rfl, rfl, rfl, rfl, rfl, rfl, trivial⟩ _ (by decide) ?_
  refine stop_call _ cl24 rfl rfl rfl rfl ⟨rfl, rfl⟩ (fun A w hW => toIntS_c s0 m.items w ⟨(by first | exact hW.rd 0 rfl | exact hW.rdOwn 0 rfl | exact hW.rd 1 rfl | exact hW.rdOwn 1 rfl | exact hW.rd 2 rfl | exact hW.rdOwn 2 rfl | exact hW.rd 3 rfl | exact hW.rdOwn 3 rfl | exact hW.rd 4 rfl | exact hW.rdOwn 4 rfl | exact hW.rd 5 rfl | exact hW.rdOwn 5 rfl | exact hW.rd 6 rfl | exact hW.rdOwn 6 rfl | exact hW.rd 7 rfl | exact hW.rdOwn 7 rfl | exact hW.rd 8 rfl | exact hW.rdOwn 8 rfl | exact hW.rd 9 rfl | exact hW.rdOwn 9 rfl | exact hW.rd 10 rfl | exact hW.rdOwn 10 rfl | exact hW.rd 11 rfl | exact hW.rdOwn 11 rfl | exact hW.rd 12 rfl | exact hW.rdOwn 12 rfl | exact hW.rd 13 rfl | exact hW.rdOwn 13 rfl | exact hW.rd 14 rfl | exact hW.rdOwn 14 rfl | exact hW.rd 15 rfl | exact hW.rdOwn 15 rfl | exact hW.rd 16 rfl | exact hW.rdOwn 16 rfl | exact hW.rd 17 rfl | exact hW.rdOwn 17 rfl | exact hW.rd 18 rfl | exact hW.rdOwn 18 rfl | exact hW.rd 19 rfl | exact hW.rdOwn 19 rfl | exact hW.rd 20 rfl | exact hW.rdOwn 20 rfl | exact hW.rd 21 rfl | exact hW.rdOwn 21 rfl | exact hW.rd 22 rfl | exact hW.rdOwn 22 rfl | exact hW.rd 23 rfl | exact hW.rdOwn 23 rfl), trivial⟩ b0) ?_
  rintro v L ⟨y0, rfl, rfl⟩
  refine stop_call _ cl104 rfl rfl rfl rfl ⟨rfl, rfl⟩ (fun A w hW => toLetterS_c s1 m.senders w ⟨(by first | exact hW.rd 0 rfl | exact hW.rdOwn 0 rfl | exact hW.rd 1 rfl | exact hW.rdOwn 1 rfl | exact hW.rd 2 rfl | exact hW.rdOwn 2 rfl | exact hW.rd 3 rfl | exact hW.rdOwn 3 rfl | exact hW.rd 4 rfl | exact hW.rdOwn 4 rfl | exact hW.rd 5 rfl | exact hW.rdOwn 5 rfl | exact hW.rd 6 rfl | exact hW.rdOwn 6 rfl | exact hW.rd 7 rfl | exact hW.rdOwn 7 rfl | exact hW.rd 8 rfl | exact hW.rdOwn 8 rfl | exact hW.rd 9 rfl | exact hW.rdOwn 9 rfl | exact hW.rd 10 rfl | exact hW.rdOwn 10 rfl | exact hW.rd 11 rfl | exact hW.rdOwn 11 rfl | exact hW.rd 12 rfl | exact hW.rdOwn 12 rfl | exact hW.rd 13 rfl | exact hW.rdOwn 13 rfl | exact hW.rd 14 rfl | exact hW.rdOwn 14 rfl | exact hW.rd 15 rfl | exact hW.rdOwn 15 rfl | exact hW.rd 16 rfl | exact hW.rdOwn 16 rfl | exact hW.rd 17 rfl | exact hW.rdOwn 17 rfl | exact hW.rd 18 rfl | exact hW.rdOwn 18 rfl | exact hW.rd 19 rfl | exact hW.rdOwn 19 rfl | exact hW.rd 20 rfl | exact hW.rdOwn 20 rfl | exact hW.rd 21 rfl | exact hW.rdOwn 21 rfl | exact hW.rd 22 rfl | exact hW.rdOwn 22 rfl | exact hW.rd 23 rfl | exact hW.rdOwn 23 rfl), trivial⟩ b1) ?_
  rintro v L ⟨y1, rfl, rfl⟩
  refine stop_call _ cl24 rfl rfl rfl rfl ⟨rfl, rfl⟩ (fun A w hW => toIntS_c s2 m.getters w ⟨(by first | exact hW.rd 0 rfl | exact hW.rdOwn 0 rfl | exact hW.rd 1 rfl | exact hW.rdOwn 1 rfl | exact hW.rd 2 rfl | exact hW.rdOwn 2 rfl | exact hW.rd 3 rfl | exact hW.rdOwn 3 rfl | exact hW.rd 4 rfl | exact hW.rdOwn 4 rfl | exact hW.rd 5 rfl | exact hW.rdOwn 5 rfl | exact hW.rd 6 rfl | exact hW.rdOwn 6 rfl | exact hW.rd 7 rfl | exact hW.rdOwn 7 rfl | exact hW.rd 8 rfl | exact hW.rdOwn 8 rfl | exact hW.rd 9 rfl | exact hW.rdOwn 9 rfl | exact hW.rd 10 rfl | exact hW.rdOwn 10 rfl | exact hW.rd 11 rfl | exact hW.rdOwn 11 rfl | exact hW.rd 12 rfl | exact hW.rdOwn 12 rfl | exact hW.rd 13 rfl | exact hW.rdOwn 13 rfl | exact hW.rd 14 rfl | exact hW.rdOwn 14 rfl | exact hW.rd 15 rfl | exact hW.rdOwn 15 rfl | exact hW.rd 16 rfl | exact hW.rdOwn 16 rfl | exact hW.rd 17 rfl | exact hW.rdOwn 17 rfl | exact hW.rd 18 rfl | exact hW.rdOwn 18 rfl | exact hW.rd 19 rfl | exact hW.rdOwn 19 rfl | exact hW.rd 20 rfl | exact hW.rdOwn 20 rfl | exact hW.rd 21 rfl | exact hW.rdOwn 21 rfl | exact hW.rd 22 rfl | exact hW.rdOwn 22 rfl | exact hW.rd 23 rfl | exact hW.rdOwn 23 rfl), trivial⟩ b2) ?_
  rintro v L ⟨y2, rfl, rfl⟩
  exact retw [2, 1, 0] ⟨y0, y1, y2, rfl, rfl⟩ ⟨.inl ⟨_, rfl, rfl⟩, .inl ⟨_, rfl, rfl⟩, .inl ⟨_, rfl, rfl⟩, trivial⟩ rfl ⟨rfl, rfl, rfl, trivial⟩ (fun _ => rfl)

set_option maxRecDepth 100000 in
theorem eqChan_c (m m2 : Chan) (s0 s1 s2 u0 u1 u2 : Sl) (w : World) (h : At w [slo s0 cInt 1 m.items, slo s1 cLet 2 m.senders, slo s2 cInt 1 m.getters, slo u0 cInt 1 m2.items, slo u1 cLet 2 m2.senders, slo u2 cInt 1 m2.getters]) (hb : m.small20) (hb2 : m2.small20) :
    Calls Tryz.prog 76 #[chanV m s0 s1 s2, chanV m2 u0 u1 u2] w (Ret w fun v L => v = .bool (decide (m = m2)) ∧ L = []) := by
  have hx : ∀ {a b : Chan}, a = b ↔ a.room = b.room ∧ a.items = b.items ∧ a.senders = b.senders ∧ a.getters = b.getters ∧ a.closed = b.closed := fun {a b} => ⟨fun h => by subst h; exact ⟨rfl, rfl, rfl, rfl, rfl⟩, fun h => by cases a; cases b; simp_all⟩
  obtain ⟨b0, b1, b2⟩ := hb
  obtain ⟨c0, c1, c2⟩ := hb2
  refine calls2 Tryz.func76 rfl tabOk w _ rfl _ rfl _ h ⟨rfl, rfl, rfl, rfl, rfl, rfl, rfl, rfl, rfl, rfl, rfl, rfl, trivial⟩ _ _ (by decide) ?_
  refine CaseB.mk (fun h0 => ?_) (fun h0 => ?_)
  · have g : ¬ m = m2 := fun e => by subst e; simp at h0
    exact retw [] ⟨by simp [g], rfl⟩ trivial rfl trivial (fun _ => rfl)
  refine stop_call _ cl33 rfl rfl rfl rfl ⟨rfl, rfl⟩ (fun A w hW => eqIntS_c s0 u0 m.items m2.items w ⟨(by first | exact hW.rd 0 rfl | exact hW.rdOwn 0 rfl | exact hW.rd 1 rfl | exact hW.rdOwn 1 rfl | exact hW.rd 2 rfl | exact hW.rdOwn 2 rfl | exact hW.rd 3 rfl | exact hW.rdOwn 3 rfl | exact hW.rd 4 rfl | exact hW.rdOwn 4 rfl | exact hW.rd 5 rfl | exact hW.rdOwn 5 rfl | exact hW.rd 6 rfl | exact hW.rdOwn 6 rfl | exact hW.rd 7 rfl | exact hW.rdOwn 7 rfl | exact hW.rd 8 rfl | exact hW.rdOwn 8 rfl | exact hW.rd 9 rfl | exact hW.rdOwn 9 rfl | exact hW.rd 10 rfl | exact hW.rdOwn 10 rfl | exact hW.rd 11 rfl | exact hW.rdOwn 11 rfl | exact hW.rd 12 rfl | exact hW.rdOwn 12 rfl | exact hW.rd 13 rfl | exact hW.rdOwn 13 rfl | exact hW.rd 14 rfl | exact hW.rdOwn 14 rfl | exact hW.rd 15 rfl | exact hW.rdOwn 15 rfl | exact hW.rd 16 rfl | exact hW.rdOwn 16 rfl | exact hW.rd 17 rfl | exact hW.rdOwn 17 rfl | exact hW.rd 18 rfl | exact hW.rdOwn 18 rfl | exact hW.rd 19 rfl | exact hW.rdOwn 19 rfl | exact hW.rd 20 rfl | exact hW.rdOwn 20 rfl | exact hW.rd 21 rfl | exact hW.rdOwn 21 rfl | exact hW.rd 22 rfl | exact hW.rdOwn 22 rfl | exact hW.rd 23 rfl | exact hW.rdOwn 23 rfl), (by first | exact hW.rd 0 rfl | exact hW.rdOwn 0 rfl | exact hW.rd 1 rfl | exact hW.rdOwn 1 rfl | exact hW.rd 2 rfl | exact hW.rdOwn 2 rfl | exact hW.rd 3 rfl | exact hW.rdOwn 3 rfl | exact hW.rd 4 rfl | exact hW.rdOwn 4 rfl | exact hW.rd 5 rfl | exact hW.rdOwn 5 rfl | exact hW.rd 6 rfl | exact hW.rdOwn 6 rfl | exact hW.rd 7 rfl | exact hW.rdOwn 7 rfl | exact hW.rd 8 rfl | exact hW.rdOwn 8 rfl | exact hW.rd 9 rfl | exact hW.rdOwn 9 rfl | exact hW.rd 10 rfl | exact hW.rdOwn 10 rfl | exact hW.rd 11 rfl | exact hW.rdOwn 11 rfl | exact hW.rd 12 rfl | exact hW.rdOwn 12 rfl | exact hW.rd 13 rfl | exact hW.rdOwn 13 rfl | exact hW.rd 14 rfl | exact hW.rdOwn 14 rfl | exact hW.rd 15 rfl | exact hW.rdOwn 15 rfl | exact hW.rd 16 rfl | exact hW.rdOwn 16 rfl | exact hW.rd 17 rfl | exact hW.rdOwn 17 rfl | exact hW.rd 18 rfl | exact hW.rdOwn 18 rfl | exact hW.rd 19 rfl | exact hW.rdOwn 19 rfl | exact hW.rd 20 rfl | exact hW.rdOwn 20 rfl | exact hW.rd 21 rfl | exact hW.rdOwn 21 rfl | exact hW.rd 22 rfl | exact hW.rdOwn 22 rfl | exact hW.rd 23 rfl | exact hW.rdOwn 23 rfl), trivial⟩ (by omega) (by omega)) ?_
  rintro v L ⟨rfl, rfl⟩
  refine CaseB.mk (fun h1 => ?_) (fun h1 => ?_)
  · have g : ¬ m = m2 := fun e => by subst e; simp at h1
    exact retw [] ⟨by simp [g], rfl⟩ trivial rfl trivial (fun _ => rfl)
  refine stop_call _ cl110 rfl rfl rfl rfl ⟨rfl, rfl⟩ (fun A w hW => eqLetterS_c s1 u1 m.senders m2.senders w ⟨(by first | exact hW.rd 0 rfl | exact hW.rdOwn 0 rfl | exact hW.rd 1 rfl | exact hW.rdOwn 1 rfl | exact hW.rd 2 rfl | exact hW.rdOwn 2 rfl | exact hW.rd 3 rfl | exact hW.rdOwn 3 rfl | exact hW.rd 4 rfl | exact hW.rdOwn 4 rfl | exact hW.rd 5 rfl | exact hW.rdOwn 5 rfl | exact hW.rd 6 rfl | exact hW.rdOwn 6 rfl | exact hW.rd 7 rfl | exact hW.rdOwn 7 rfl | exact hW.rd 8 rfl | exact hW.rdOwn 8 rfl | exact hW.rd 9 rfl | exact hW.rdOwn 9 rfl | exact hW.rd 10 rfl | exact hW.rdOwn 10 rfl | exact hW.rd 11 rfl | exact hW.rdOwn 11 rfl | exact hW.rd 12 rfl | exact hW.rdOwn 12 rfl | exact hW.rd 13 rfl | exact hW.rdOwn 13 rfl | exact hW.rd 14 rfl | exact hW.rdOwn 14 rfl | exact hW.rd 15 rfl | exact hW.rdOwn 15 rfl | exact hW.rd 16 rfl | exact hW.rdOwn 16 rfl | exact hW.rd 17 rfl | exact hW.rdOwn 17 rfl | exact hW.rd 18 rfl | exact hW.rdOwn 18 rfl | exact hW.rd 19 rfl | exact hW.rdOwn 19 rfl | exact hW.rd 20 rfl | exact hW.rdOwn 20 rfl | exact hW.rd 21 rfl | exact hW.rdOwn 21 rfl | exact hW.rd 22 rfl | exact hW.rdOwn 22 rfl | exact hW.rd 23 rfl | exact hW.rdOwn 23 rfl), (by first | exact hW.rd 0 rfl | exact hW.rdOwn 0 rfl | exact hW.rd 1 rfl | exact hW.rdOwn 1 rfl | exact hW.rd 2 rfl | exact hW.rdOwn 2 rfl | exact hW.rd 3 rfl | exact hW.rdOwn 3 rfl | exact hW.rd 4 rfl | exact hW.rdOwn 4 rfl | exact hW.rd 5 rfl | exact hW.rdOwn 5 rfl | exact hW.rd 6 rfl | exact hW.rdOwn 6 rfl | exact hW.rd 7 rfl | exact hW.rdOwn 7 rfl | exact hW.rd 8 rfl | exact hW.rdOwn 8 rfl | exact hW.rd 9 rfl | exact hW.rdOwn 9 rfl | exact hW.rd 10 rfl | exact hW.rdOwn 10 rfl | exact hW.rd 11 rfl | exact hW.rdOwn 11 rfl | exact hW.rd 12 rfl | exact hW.rdOwn 12 rfl | exact hW.rd 13 rfl | exact hW.rdOwn 13 rfl | exact hW.rd 14 rfl | exact hW.rdOwn 14 rfl | exact hW.rd 15 rfl | exact hW.rdOwn 15 rfl | exact hW.rd 16 rfl | exact hW.rdOwn 16 rfl | exact hW.rd 17 rfl | exact hW.rdOwn 17 rfl | exact hW.rd 18 rfl | exact hW.rdOwn 18 rfl | exact hW.rd 19 rfl | exact hW.rdOwn 19 rfl | exact hW.rd 20 rfl | exact hW.rdOwn 20 rfl | exact hW.rd 21 rfl | exact hW.rdOwn 21 rfl | exact hW.rd 22 rfl | exact hW.rdOwn 22 rfl | exact hW.rd 23 rfl | exact hW.rdOwn 23 rfl), trivial⟩ (by omega) (by omega)) ?_
  rintro v L ⟨rfl, rfl⟩
  refine CaseB.mk (fun h2 => ?_) (fun h2 => ?_)
  · have g : ¬ m = m2 := fun e => by subst e; simp at h2
    exact retw [] ⟨by simp [g], rfl⟩ trivial rfl trivial (fun _ => rfl)
  refine stop_call _ cl33 rfl rfl rfl rfl ⟨rfl, rfl⟩ (fun A w hW => eqIntS_c s2 u2 m.getters m2.getters w ⟨(by first | exact hW.rd 0 rfl | exact hW.rdOwn 0 rfl | exact hW.rd 1 rfl | exact hW.rdOwn 1 rfl | exact hW.rd 2 rfl | exact hW.rdOwn 2 rfl | exact hW.rd 3 rfl | exact hW.rdOwn 3 rfl | exact hW.rd 4 rfl | exact hW.rdOwn 4 rfl | exact hW.rd 5 rfl | exact hW.rdOwn 5 rfl | exact hW.rd 6 rfl | exact hW.rdOwn 6 rfl | exact hW.rd 7 rfl | exact hW.rdOwn 7 rfl | exact hW.rd 8 rfl | exact hW.rdOwn 8 rfl | exact hW.rd 9 rfl | exact hW.rdOwn 9 rfl | exact hW.rd 10 rfl | exact hW.rdOwn 10 rfl | exact hW.rd 11 rfl | exact hW.rdOwn 11 rfl | exact hW.rd 12 rfl | exact hW.rdOwn 12 rfl | exact hW.rd 13 rfl | exact hW.rdOwn 13 rfl | exact hW.rd 14 rfl | exact hW.rdOwn 14 rfl | exact hW.rd 15 rfl | exact hW.rdOwn 15 rfl | exact hW.rd 16 rfl | exact hW.rdOwn 16 rfl | exact hW.rd 17 rfl | exact hW.rdOwn 17 rfl | exact hW.rd 18 rfl | exact hW.rdOwn 18 rfl | exact hW.rd 19 rfl | exact hW.rdOwn 19 rfl | exact hW.rd 20 rfl | exact hW.rdOwn 20 rfl | exact hW.rd 21 rfl | exact hW.rdOwn 21 rfl | exact hW.rd 22 rfl | exact hW.rdOwn 22 rfl | exact hW.rd 23 rfl | exact hW.rdOwn 23 rfl), (by first | exact hW.rd 0 rfl | exact hW.rdOwn 0 rfl | exact hW.rd 1 rfl | exact hW.rdOwn 1 rfl | exact hW.rd 2 rfl | exact hW.rdOwn 2 rfl | exact hW.rd 3 rfl | exact hW.rdOwn 3 rfl | exact hW.rd 4 rfl | exact hW.rdOwn 4 rfl | exact hW.rd 5 rfl | exact hW.rdOwn 5 rfl | exact hW.rd 6 rfl | exact hW.rdOwn 6 rfl | exact hW.rd 7 rfl | exact hW.rdOwn 7 rfl | exact hW.rd 8 rfl | exact hW.rdOwn 8 rfl | exact hW.rd 9 rfl | exact hW.rdOwn 9 rfl | exact hW.rd 10 rfl | exact hW.rdOwn 10 rfl | exact hW.rd 11 rfl | exact hW.rdOwn 11 rfl | exact hW.rd 12 rfl | exact hW.rdOwn 12 rfl | exact hW.rd 13 rfl | exact hW.rdOwn 13 rfl | exact hW.rd 14 rfl | exact hW.rdOwn 14 rfl | exact hW.rd 15 rfl | exact hW.rdOwn 15 rfl | exact hW.rd 16 rfl | exact hW.rdOwn 16 rfl | exact hW.rd 17 rfl | exact hW.rdOwn 17 rfl | exact hW.rd 18 rfl | exact hW.rdOwn 18 rfl | exact hW.rd 19 rfl | exact hW.rdOwn 19 rfl | exact hW.rd 20 rfl | exact hW.rdOwn 20 rfl | exact hW.rd 21 rfl | exact hW.rdOwn 21 rfl | exact hW.rd 22 rfl | exact hW.rdOwn 22 rfl | exact hW.rd 23 rfl | exact hW.rdOwn 23 rfl), trivial⟩ (by omega) (by omega)) ?_
  rintro v L ⟨rfl, rfl⟩
  refine CaseB.mk (fun h3 => ?_) (fun h3 => ?_)
  · have g : ¬ m = m2 := fun e => by subst e; simp at h3
    exact retw [] ⟨by simp [g], rfl⟩ trivial rfl trivial (fun _ => rfl)
  refine CaseB.mk (fun h4 => ?_) (fun h4 => ?_)
  · have g : ¬ m = m2 := fun e => by subst e; simp at h4
    exact retw [] ⟨by simp [g], rfl⟩ trivial rfl trivial (fun _ => rfl)
  have g : m = m2 := hx.2 ⟨by simpa using h0, by simpa using h1, by simpa using h2, by simpa using h3, by simpa using h4⟩
  exact retw [] ⟨by simp [g], rfl⟩ trivial rfl trivial (fun _ => rfl)

end Go.Proofs.YtchkcjeeknfchaaGreatDoor
