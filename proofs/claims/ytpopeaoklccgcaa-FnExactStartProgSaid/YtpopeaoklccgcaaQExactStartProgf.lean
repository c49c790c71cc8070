/- FnExactStartProg: called with any arguments it returns true. No condition. -/
import Derived.ProofKit
import Derived.Deep.Slices
import Derived.Laws.StructEq
import Derived.Test.YtpopeaoklccgcaaRows
import Derived.Test.YtpopeaoklccgcaaQExactStartProge
namespace Go.Proofs.Ytpopeaoklccgcaa

open Go Go.Sx Go.RowKit

set_option maxHeartbeats 16000000 in
set_option maxRecDepth 100000 in
theorem progValid_c (p : ProgH) (w : World) (h : At w [fR (progO p)]) (hs : p.sems.length ≤ 1048576 ∧ p.groups.length ≤ 1048576 ∧ p.barriers.length ≤ 1048576 ∧ p.rooms.length ≤ 1048576) :
    Calls Try.prog 14 #[progV p] w (Tells w (ProgOk p.pure)) := by
  refine calls1 Try.func14 rfl tabOk w _ rfl _ rfl _ h ⟨rfl, rfl, trivial⟩ _ (by decide) ?_
  refine stop_call _ cl62 rfl rfl rfl rfl ⟨rfl, rfl⟩ (fun A w hW => within_c p.h0 p.sems 1 9 w ⟨hW.get 0 rfl (.ofR (progO_sems p)), trivial⟩ (by omega)) ?_
  rintro v L ⟨b0, rfl, hb0, rfl⟩
  refine CaseB.mk (fun g => ?_) (fun g => ?_)
  · exact retw [] ⟨_, rfl, tno fun e => (by have := hb0.2 e.sems; rw [this] at g; cases g), rfl⟩ trivial rfl trivial (fun _ => rfl)
  have w0 := hb0.1 (by simpa using g)
  refine stop_call _ cl62 rfl rfl rfl rfl ⟨rfl, rfl⟩ (fun A w hW => within_c p.h1 p.groups 0 9 w ⟨hW.get 0 rfl (.ofR (progO_groups p)), trivial⟩ (by omega)) ?_
  rintro v L ⟨b1, rfl, hb1, rfl⟩
  refine CaseB.mk (fun g => ?_) (fun g => ?_)
  · exact retw [] ⟨_, rfl, tno fun e => (by have := hb1.2 e.groups; rw [this] at g; cases g), rfl⟩ trivial rfl trivial (fun _ => rfl)
  have w1 := hb1.1 (by simpa using g)
  refine stop_call _ cl62 rfl rfl rfl rfl ⟨rfl, rfl⟩ (fun A w hW => within_c p.h2 p.barriers 1 6 w ⟨hW.get 0 rfl (.ofR (progO_barriers p)), trivial⟩ (by omega)) ?_
  rintro v L ⟨b2, rfl, hb2, rfl⟩
  refine CaseB.mk (fun g => ?_) (fun g => ?_)
  · exact retw [] ⟨_, rfl, tno fun e => (by have := hb2.2 e.barriers; rw [this] at g; cases g), rfl⟩ trivial rfl trivial (fun _ => rfl)
  have w2 := hb2.1 (by simpa using g)
  refine stop_call _ cl62 rfl rfl rfl rfl ⟨rfl, rfl⟩ (fun A w hW => within_c p.h3 p.rooms 0 4 w ⟨hW.get 0 rfl (.ofR (progO_rooms p)), trivial⟩ (by omega)) ?_
  rintro v L ⟨b3, rfl, hb3, rfl⟩
  refine CaseB.mk (fun g => ?_) (fun g => ?_)
  · exact retw [] ⟨_, rfl, tno fun e => (by have := hb3.2 e.rooms; rw [this] at g; cases g), rfl⟩ trivial rfl trivial (fun _ => rfl)
  have w3 := hb3.1 (by simpa using g)
  have hlen : p.pure.threads.length = p.threads.length := by simp [ProgH.pure]
  refine CaseB.mk (fun g => ?_) (fun g => ?_)
  · have q : ¬ 1 ≤ p.threads.length := by have g' := of_decide_eq_true g; omega
    exact retw [] ⟨_, rfl, tno fun e => q (hlen ▸ e.n1), rfl⟩ trivial rfl trivial (fun _ => rfl)
  have n1 : 1 ≤ p.threads.length := by have g' := of_decide_eq_false g; omega
  refine CaseB.mk (fun g => ?_) (fun g => ?_)
  · have q : ¬ p.threads.length ≤ 4 := by simp at g; omega
    exact retw [] ⟨_, rfl, tno fun e => q (hlen ▸ e.n4), rfl⟩ trivial rfl trivial (fun _ => rfl)
  have n4 : p.threads.length ≤ 4 := by simp at g; omega
  have hmem : ∀ (k : Nat) (hk : k < p.threads.length), (p.threads[k]).m ∈ p.pure.threads := fun k hk => List.mem_map_of_mem (List.getElem_mem hk)
  refine LoopW.mk ⟨{ k : Nat // k ≤ p.threads.length ∧ ∀ t ∈ p.pure.threads.take k, t.length ≤ 8 ∧ ∀ o ∈ t, OpOk p.pure o },
    fun k => .mk [(1, .p 0 0), (42, .v (p.h4.val p.threads.length)), (43, .v (.int .i64 (p.threads.length : Int))), (44, .v (.int .i64 (k.1 : Int)))] 1 0 [(0, 44, 5)] [((0, 0), .v (p.h0.val p.sems.length)), ((0, 1), .v (p.h1.val p.groups.length)), ((0, 2), .v (p.h2.val p.barriers.length)), ((0, 3), .v (p.h3.val p.rooms.length)), ((0, 4), .v (p.h4.val p.threads.length))] [fR (progO p)],
    fun k => p.threads.length - k.1, ⟨0, Nat.zero_le _, by simp⟩, ?_, ?_⟩
  · refine weak_mk [0] ?_ ?_ ?_ ?_ ?_ rfl rfl
    · repeat (first | exact trivial | refine ⟨⟨_, rfl, (by first | exact .of rfl | exact .lit rfl | exact .of (by first | (rfl)) | exact .lit (by first | (rfl))), (by first | exact trivial | exact Nat.le_of_ble_eq_true rfl)⟩, ?_⟩)
    · repeat (first | exact trivial | refine ⟨⟨(by first | exact .head _ | exact .tail _ (.head _) | exact .tail _ (.tail _ (.head _)) | exact .tail _ (.tail _ (.tail _ (.head _))) | exact .tail _ (.tail _ (.tail _ (.tail _ (.head _)))) | exact .tail _ (.tail _ (.tail _ (.tail _ (.tail _ (.head _))))) | exact .tail _ (.tail _ (.tail _ (.tail _ (.tail _ (.tail _ (.head _)))))) | exact .tail _ (.tail _ (.tail _ (.tail _ (.tail _ (.tail _ (.tail _ (.head _))))))) | exact .tail _ (.tail _ (.tail _ (.tail _ (.tail _ (.tail _ (.tail _ (.tail _ (.head _)))))))) | exact .tail _ (.tail _ (.tail _ (.tail _ (.tail _ (.tail _ (.tail _ (.tail _ (.tail _ (.head _)))))))))), Nat.le_of_ble_eq_true rfl⟩, ?_⟩)
    · repeat (first | exact trivial | refine ⟨⟨_, rfl, (by first | exact .of rfl | exact .lit rfl | exact .of (by first | (rfl)) | exact .lit (by first | (rfl))), (by first | exact trivial | exact Nat.le_of_ble_eq_true rfl)⟩, ?_⟩)
    · repeat (first | exact trivial | refine ⟨⟨_, rfl⟩, ?_⟩)
    · repeat (first | exact trivial | refine ⟨.inl ⟨_, rfl, (by first | rfl | (rfl))⟩, ?_⟩ | refine ⟨.inr ⟨Nat.le_of_ble_eq_true rfl, rfl, rfl, rfl, rfl⟩, ?_⟩)
  rintro ⟨k, hk, hinv⟩
  refine CaseB.mk (fun g => ?_) (fun g => ?_)
  · have hlt : k < p.threads.length := by simpa using g
    have hget : p.pure.threads[k]'(by rw [hlen]; exact hlt) = (p.threads[k]).m := by simp [ProgH.pure]
    refine stop_idx encOpSH tabOk rfl rfl rfl rfl rfl ⟨rfl, rfl⟩ (rdVia 0 rfl (.trans (.R_R (progO_threads p)) (.ofR nest_h))) k rfl (by first | omega | (simp; done) | (simp; omega) | (unfold maxLen; omega) | (unfold maxLen; simp; done) | (unfold maxLen; simp; omega)) (fun ad => ?_)
    refine CaseB.mk (fun g => ?_) (fun g => ?_)
    · have q : ¬ (p.threads[k]).m.length ≤ 8 := by simp at g; omega
      exact retw [] ⟨_, rfl, tno fun e => q (e.ops _ (hmem k hlt)).1, rfl⟩ trivial rfl trivial (fun _ => rfl)
    have n8 : (p.threads[k]).m.length ≤ 8 := by simp at g; omega
    refine LoopW.mk ⟨{ j : Nat // j ≤ (p.threads[k]).m.length ∧ ∀ o ∈ (p.threads[k]).m.take j, OpOk p.pure o },
      fun j => .mk [(1, .p 0 0), (42, .v (p.h4.val p.threads.length)), (43, .v (.int .i64 (p.threads.length : Int))), (44, .v (.int .i64 (k : Int))), (51, .v ((p.threads[k]).q.val (p.threads[k]).m.length)), (52, .v (.int .i64 ((p.threads[k]).m.length : Int))), (53, .v (.int .i64 (j.1 : Int)))] 1 0 [(0, 44, 5)] [((0, 0), .v (p.h0.val p.sems.length)), ((0, 1), .v (p.h1.val p.groups.length)), ((0, 2), .v (p.h2.val p.barriers.length)), ((0, 3), .v (p.h3.val p.rooms.length)), ((0, 4), .v (p.h4.val p.threads.length))] [fR (progO p)],
      fun j => (p.threads[k]).m.length - j.1, ⟨0, Nat.zero_le _, by simp⟩, ?_, ?_⟩
    · refine weak_mk [0] ?_ ?_ ?_ ?_ ?_ rfl rfl
      · repeat (first | exact trivial | refine ⟨⟨_, rfl, (by first | exact .of rfl | exact .lit rfl | exact .of (by first | (rfl)) | exact .lit (by first | (rfl))), (by first | exact trivial | exact Nat.le_of_ble_eq_true rfl)⟩, ?_⟩)
      · repeat (first | exact trivial | refine ⟨⟨(by first | exact .head _ | exact .tail _ (.head _) | exact .tail _ (.tail _ (.head _)) | exact .tail _ (.tail _ (.tail _ (.head _))) | exact .tail _ (.tail _ (.tail _ (.tail _ (.head _)))) | exact .tail _ (.tail _ (.tail _ (.tail _ (.tail _ (.head _))))) | exact .tail _ (.tail _ (.tail _ (.tail _ (.tail _ (.tail _ (.head _)))))) | exact .tail _ (.tail _ (.tail _ (.tail _ (.tail _ (.tail _ (.tail _ (.head _))))))) | exact .tail _ (.tail _ (.tail _ (.tail _ (.tail _ (.tail _ (.tail _ (.tail _ (.head _)))))))) | exact .tail _ (.tail _ (.tail _ (.tail _ (.tail _ (.tail _ (.tail _ (.tail _ (.tail _ (.head _)))))))))), Nat.le_of_ble_eq_true rfl⟩, ?_⟩)
      · repeat (first | exact trivial | refine ⟨⟨_, rfl, (by first | exact .of rfl | exact .lit rfl | exact .of (by first | (rfl)) | exact .lit (by first | (rfl))), (by first | exact trivial | exact Nat.le_of_ble_eq_true rfl)⟩, ?_⟩)
      · repeat (first | exact trivial | refine ⟨⟨_, rfl⟩, ?_⟩)
      · repeat (first | exact trivial | refine ⟨.inl ⟨_, rfl, (by first | rfl | (rfl))⟩, ?_⟩ | refine ⟨.inr ⟨Nat.le_of_ble_eq_true rfl, rfl, rfl, rfl, rfl⟩, ?_⟩)
    rintro ⟨j, hj, hinv2⟩
    refine CaseB.mk (fun g => ?_) (fun g => ?_)
    · have hlj : j < (p.threads[k]).m.length := by simpa using g
      refine stop_idx encOp tabOk rfl rfl rfl rfl rfl ⟨rfl, rfl⟩ (rdVia 0 rfl (.trans (.R_R (progO_threads p)) (.ofR (threadsO_0 _ _ k hlt)))) j rfl (by first | omega | (simp; done) | (simp; omega) | (unfold maxLen; omega) | (unfold maxLen; simp; done) | (unfold maxLen; simp; omega)) (fun ad2 => ?_)
      refine stop_call _ cl63 rfl rfl rfl rfl ⟨rfl, rfl⟩ (fun A w hW => opValid_c p _ w ⟨hW.get 0 rfl (.refl _), trivial⟩) ?_
      rintro v L ⟨b, rfl, hb, rfl⟩
      refine CaseB.mk (fun g => ?_) (fun g => ?_)
      · exact retw [] ⟨_, rfl, tno fun e => (by have := hb.2 ((e.ops _ (hmem k hlt)).2 _ (List.getElem_mem hlj)); rw [this] at g; cases g), rfl⟩ trivial rfl trivial (fun _ => rfl)
      have hw := e_succ j _ hlj (by omega)
      refine ⟨⟨j + 1, by omega, fun o ho => ?_⟩, ?_, by simp; omega⟩
      · rw [List.take_succ_eq_append_getElem hlj] at ho
        rcases List.mem_append.1 ho with ho | ho
        · exact hinv2 o ho
        · simp at ho; subst ho; exact hb.1 (by simpa using g)
      · refine weak_mk [0] ?_ ?_ ?_ ?_ ?_ rfl rfl
        · repeat (first | exact trivial | refine ⟨⟨_, rfl, (by first | exact .of rfl | exact .lit rfl | exact .of (by first | ((exact congrArg (fun z => SV.v (Value.int .i64 z)) hw))) | exact .lit (by first | ((exact congrArg (fun z => SV.v (Value.int .i64 z)) hw)))), (by first | exact trivial | exact Nat.le_of_ble_eq_true rfl)⟩, ?_⟩)
        · repeat (first | exact trivial | refine ⟨⟨(by first | exact .head _ | exact .tail _ (.head _) | exact .tail _ (.tail _ (.head _)) | exact .tail _ (.tail _ (.tail _ (.head _))) | exact .tail _ (.tail _ (.tail _ (.tail _ (.head _)))) | exact .tail _ (.tail _ (.tail _ (.tail _ (.tail _ (.head _))))) | exact .tail _ (.tail _ (.tail _ (.tail _ (.tail _ (.tail _ (.head _)))))) | exact .tail _ (.tail _ (.tail _ (.tail _ (.tail _ (.tail _ (.tail _ (.head _))))))) | exact .tail _ (.tail _ (.tail _ (.tail _ (.tail _ (.tail _ (.tail _ (.tail _ (.head _)))))))) | exact .tail _ (.tail _ (.tail _ (.tail _ (.tail _ (.tail _ (.tail _ (.tail _ (.tail _ (.head _)))))))))), Nat.le_of_ble_eq_true rfl⟩, ?_⟩)
        · repeat (first | exact trivial | refine ⟨⟨_, rfl, (by first | exact .of rfl | exact .lit rfl | exact .of (by first | ((exact congrArg (fun z => SV.v (Value.int .i64 z)) hw))) | exact .lit (by first | ((exact congrArg (fun z => SV.v (Value.int .i64 z)) hw)))), (by first | exact trivial | exact Nat.le_of_ble_eq_true rfl)⟩, ?_⟩)
        · repeat (first | exact trivial | refine ⟨⟨_, rfl⟩, ?_⟩)
        · repeat (first | exact trivial | refine ⟨.inl ⟨_, rfl, (by first | rfl | ((exact congrArg (fun z => SV.v (Value.int .i64 z)) hw)))⟩, ?_⟩ | refine ⟨.inr ⟨Nat.le_of_ble_eq_true rfl, rfl, rfl, rfl, rfl⟩, ?_⟩)
    have hge2 : (p.threads[k]).m.length ≤ j := by simpa using g
    have hw := e_succ k _ hlt (by omega)
    refine ⟨⟨k + 1, by omega, fun t ht => ?_⟩, ?_, by simp; omega⟩
    · rw [List.take_succ_eq_append_getElem (by rw [hlen]; exact hlt)] at ht
      rcases List.mem_append.1 ht with ht | ht
      · exact hinv t ht
      · simp only [List.mem_singleton] at ht
        rw [hget] at ht
        subst ht
        exact ⟨n8, by rw [List.take_of_length_le hge2] at hinv2; exact hinv2⟩
    · refine weak_mk [0] ?_ ?_ ?_ ?_ ?_ rfl rfl
      · repeat (first | exact trivial | refine ⟨⟨_, rfl, (by first | exact .of rfl | exact .lit rfl | exact .of (by first | ((exact congrArg (fun z => SV.v (Value.int .i64 z)) hw))) | exact .lit (by first | ((exact congrArg (fun z => SV.v (Value.int .i64 z)) hw)))), (by first | exact trivial | exact Nat.le_of_ble_eq_true rfl)⟩, ?_⟩)
      · repeat (first | exact trivial | refine ⟨⟨(by first | exact .head _ | exact .tail _ (.head _) | exact .tail _ (.tail _ (.head _)) | exact .tail _ (.tail _ (.tail _ (.head _))) | exact .tail _ (.tail _ (.tail _ (.tail _ (.head _)))) | exact .tail _ (.tail _ (.tail _ (.tail _ (.tail _ (.head _))))) | exact .tail _ (.tail _ (.tail _ (.tail _ (.tail _ (.tail _ (.head _)))))) | exact .tail _ (.tail _ (.tail _ (.tail _ (.tail _ (.tail _ (.tail _ (.head _))))))) | exact .tail _ (.tail _ (.tail _ (.tail _ (.tail _ (.tail _ (.tail _ (.tail _ (.head _)))))))) | exact .tail _ (.tail _ (.tail _ (.tail _ (.tail _ (.tail _ (.tail _ (.tail _ (.tail _ (.head _)))))))))), Nat.le_of_ble_eq_true rfl⟩, ?_⟩)
      · repeat (first | exact trivial | refine ⟨⟨_, rfl, (by first | exact .of rfl | exact .lit rfl | exact .of (by first | ((exact congrArg (fun z => SV.v (Value.int .i64 z)) hw))) | exact .lit (by first | ((exact congrArg (fun z => SV.v (Value.int .i64 z)) hw)))), (by first | exact trivial | exact Nat.le_of_ble_eq_true rfl)⟩, ?_⟩)
      · repeat (first | exact trivial | refine ⟨⟨_, rfl⟩, ?_⟩)
      · repeat (first | exact trivial | refine ⟨.inl ⟨_, rfl, (by first | rfl | ((exact congrArg (fun z => SV.v (Value.int .i64 z)) hw)))⟩, ?_⟩ | refine ⟨.inr ⟨Nat.le_of_ble_eq_true rfl, rfl, rfl, rfl, rfl⟩, ?_⟩)
  have hge : p.threads.length ≤ k := by simpa using g
  refine retw [] ⟨_, rfl, tyes ⟨w0, w1, w2, w3, by rw [hlen]; exact n1, by rw [hlen]; exact n4, fun t ht => ?_⟩, rfl⟩ trivial rfl trivial (fun _ => rfl)
  rw [List.take_of_length_le (by rw [hlen]; exact hge)] at hinv
  exact hinv t ht

end Go.Proofs.Ytpopeaoklccgcaa

namespace Go.Proofs.Ytpopeaoklccgcaa

open Go Go.Sx Go.RowKit

def onceZ : OnceH := ⟨⟨0, 0, 0, []⟩, ⟨none, 0⟩⟩

def rest (ops : List Op) : Int := if ops.length = 0 then 3 else 0

def start (p : Prog) : State := ⟨p.threads.map fun _ => 0, p.threads.map rest, p.sems.map fun n => ⟨n, n, []⟩, [⟨0, 0, 0, []⟩, ⟨0, 0, 0, []⟩, ⟨0, 0, 0, []⟩], p.groups.map fun n => ⟨n, []⟩, p.barriers.map fun n => ⟨n, 0, []⟩, p.rooms.map fun n => ⟨n, [], [], [], false⟩, [], 0⟩

def State.zero : State := ⟨[], [], [], [], [], [], [], [], 0⟩

def StateH.zero : StateH := ⟨[], [], [], [], [], [], [], [], 0, ⟨none, 0⟩, ⟨none, 0⟩, ⟨none, 0⟩, ⟨none, 0⟩, ⟨none, 0⟩, ⟨none, 0⟩, ⟨none, 0⟩, ⟨none, 0⟩⟩

theorem zero_nil : ∀ g ∈ stateO StateH.zero, nilFact g := by
  intro g hg
  simp [stateO, StateH.zero, semsO, oncesO, groupsO, barriersO, chansO, nestO] at hg
  rcases hg with rfl | rfl | rfl | rfl | rfl | rfl | rfl | rfl <;> exact ⟨rfl, rfl, rfl, rfl⟩

/-- What StartProg returns. -/
def Started (p : Prog) (v : Value) (L : List Fct) : Prop := ∃ (y : StateH) (b : Bool), v = .tuple #[stateV y, .bool b] ∧ (b = true ↔ ProgOk p) ∧ (b = true → y.pure = start p) ∧ (b = false → y.pure = State.zero) ∧ L = [fO (stateO y)]

theorem nilOf {α : Type} {inner : α → List Fct} {xs : List α} (h : ∀ x ∈ xs, ∀ g ∈ inner x, nilFact g) : ∀ g ∈ xs.flatMap inner, nilFact g := fun g hg => by
  obtain ⟨x, hx, hg⟩ := List.mem_flatMap.1 hg
  exact h x hx g hg

set_option maxHeartbeats 16000000 in
set_option maxRecDepth 100000 in
theorem startProg_c (p : ProgH) (w : World) (h : At w [fR (progO p)]) (hs : p.sems.length ≤ 1048576 ∧ p.groups.length ≤ 1048576 ∧ p.barriers.length ≤ 1048576 ∧ p.rooms.length ≤ 1048576) :
    Calls Try.prog 12 #[progV p] w (Ret w (Started p.pure)) := by
  refine calls1 Try.func12 rfl tabOk w _ rfl _ rfl _ h ⟨rfl, rfl, trivial⟩ _ (by decide) ?_
  refine stop_call _ cl14 rfl rfl rfl rfl ⟨rfl, rfl⟩ (fun A w hW => progValid_c p w ⟨hW.get 0 rfl (.refl _), trivial⟩ hs) ?_
  rintro v L ⟨b, rfl, hb, rfl⟩
  refine CaseB.mk (fun g => ?_) (fun g => ?_)
  · have hn : ¬ ProgOk p.pure := fun e => by rw [hb.2 e] at g; cases g
    refine ret_shift (.joinO [90] (Gs := [_]) ⟨.inr ⟨Nat.le_of_ble_eq_true rfl, zero_nil⟩, trivial⟩ rfl (G := stateO StateH.zero) (.of_eq (by simp))) ?_
    exact retw [0] ⟨StateH.zero, false, rfl, tno hn, fun e => (by cases e), fun _ => rfl, rfl⟩ ⟨.inl ⟨_, rfl, rfl⟩, trivial⟩ rfl ⟨rfl, trivial⟩ (fun _ => rfl)
  have ok := hb.1 (by simpa using g)
  have n4 : p.threads.length ≤ 4 := by have := ok.n4; simpa [ProgH.pure] using this
  have m0 : p.sems.length ≤ 3 := ok.sems.1
  have m1 : p.groups.length ≤ 3 := ok.groups.1
  have m2 : p.barriers.length ≤ 3 := ok.barriers.1
  have m3 : p.rooms.length ≤ 3 := ok.rooms.1
  refine stop_make encOnceH onceZ tabOk rfl rfl rfl rfl rfl (by decide) ⟨rfl, rfl⟩ 3 rfl (by first | omega | (simp; done) | (simp; omega) | (unfold maxLen; omega) | (unfold maxLen; simp; done) | (unfold maxLen; simp; omega)) (by first | omega | (simp; done) | (simp; omega) | (unfold maxLen; omega) | (unfold maxLen; simp; done) | (unfold maxLen; simp; omega)) (fun y => ?_)
  obtain ⟨LP, hLP⟩ : ∃ l, l = p.threads.map (fun _ => (0 : Int)) := ⟨_, rfl⟩
  obtain ⟨LS, hLS⟩ : ∃ l, l = p.threads.map (fun x => rest x.m) := ⟨_, rfl⟩
  have lP : LP.length = p.threads.length := by rw [hLP]; simp
  have lS : LS.length = p.threads.length := by rw [hLS]; simp
  refine LoopW.mk ⟨{ q : Nat × Sl × Sl // q.1 ≤ p.threads.length },
    fun q => .mk [(1, .p 0 0), (2, .p 1 0), (4, .p 2 0), (23, .v (p.h4.val p.threads.length)), (24, .v (.int .i64 (p.threads.length : Int))), (25, .v (.int .i64 (q.1.1 : Int)))] 3 0 [(0, 44, 5), (1, 38, 9), (2, 38, 9)]
      [((0, 0), .v (p.h0.val p.sems.length)), ((0, 1), .v (p.h1.val p.groups.length)), ((0, 2), .v (p.h2.val p.barriers.length)), ((0, 3), .v (p.h3.val p.rooms.length)), ((0, 4), .v (p.h4.val p.threads.length)), ((2, 0), .v (q.1.2.1.val (LP.take q.1.1).length)), ((2, 1), .v (q.1.2.2.val (LS.take q.1.1).length)), ((2, 2), .v (.slice none 0 0)), ((2, 3), .v (y.val 3)), ((2, 4), .v (.slice none 0 0)), ((2, 5), .v (.slice none 0 0)), ((2, 6), .v (.slice none 0 0)), ((2, 7), .v (.slice none 0 0)), ((2, 8), .v (.int .i64 0))]
      [own q.1.2.1 3 cInt 1 (LP.take q.1.1), own q.1.2.2 3 cInt 1 (LS.take q.1.1), own y 89 cOnceH 4 [onceZ, onceZ, onceZ], fR (progO p)],
    fun q => p.threads.length - q.1.1, ⟨(0, ⟨none, 0⟩, ⟨none, 0⟩), Nat.zero_le _⟩, ?_, ?_⟩
  · refine weak_mk [99, 98, 0, 1] ?_ ?_ ?_ ?_ ?_ rfl rfl
    · repeat (first | exact trivial | refine ⟨⟨_, rfl, (by first | exact .of rfl | exact .lit rfl | exact .of (by first | (rfl)) | exact .lit (by first | (rfl))), (by first | exact trivial | exact Nat.le_of_ble_eq_true rfl)⟩, ?_⟩)
    · repeat (first | exact trivial | refine ⟨⟨(by first | exact .head _ | exact .tail _ (.head _) | exact .tail _ (.tail _ (.head _)) | exact .tail _ (.tail _ (.tail _ (.head _))) | exact .tail _ (.tail _ (.tail _ (.tail _ (.head _)))) | exact .tail _ (.tail _ (.tail _ (.tail _ (.tail _ (.head _))))) | exact .tail _ (.tail _ (.tail _ (.tail _ (.tail _ (.tail _ (.head _)))))) | exact .tail _ (.tail _ (.tail _ (.tail _ (.tail _ (.tail _ (.tail _ (.head _))))))) | exact .tail _ (.tail _ (.tail _ (.tail _ (.tail _ (.tail _ (.tail _ (.tail _ (.head _)))))))) | exact .tail _ (.tail _ (.tail _ (.tail _ (.tail _ (.tail _ (.tail _ (.tail _ (.tail _ (.head _)))))))))), Nat.le_of_ble_eq_true rfl⟩, ?_⟩)
    · repeat (first | exact trivial | refine ⟨⟨_, rfl, (by first | exact .of rfl | exact .lit rfl | exact .of (by first | (rfl)) | exact .lit (by first | (rfl))), (by first | exact trivial | exact Nat.le_of_ble_eq_true rfl)⟩, ?_⟩)
    · repeat (first | exact trivial | refine ⟨⟨_, rfl⟩, ?_⟩)
    · repeat (first | exact trivial | refine ⟨.inl ⟨_, rfl, (by first | rfl | (rfl))⟩, ?_⟩ | refine ⟨.inr ⟨Nat.le_of_ble_eq_true rfl, rfl, rfl, rfl, rfl⟩, ?_⟩)
  rintro ⟨⟨k, a, s⟩, hk⟩
  simp only at hk
  refine CaseB.mk (fun g => ?_) (fun g => ?_)
  · have hlt : k < p.threads.length := by simpa using g
    have eP : LP.take k ++ [0] = LP.take (k + 1) := by rw [hLP]; exact map_take_succ hlt rfl rfl
    have eS : ∀ x, x = rest (p.threads[k]).m → LS.take k ++ [x] = LS.take (k + 1) := fun x hx => by rw [hLS]; exact map_take_succ hlt rfl hx
    have hw := e_succ k _ hlt (by omega)
    refine stop_idx encOpSH tabOk rfl rfl rfl rfl rfl ⟨rfl, rfl⟩ (rdVia 3 rfl (.trans (.R_R (progO_threads p)) (.ofR nest_h))) k rfl (by first | omega | (simp; done) | (simp; omega) | (unfold maxLen; omega) | (unfold maxLen; simp; done) | (unfold maxLen; simp; omega)) (fun ad => ?_)
    refine AllSl.mk fun u => ?_
    refine stop_app encInt 1 tabOk (ys := [0]) rfl rfl rfl rfl rfl rfl rfl rfl rfl (by decide) ⟨rfl, rfl⟩ rfl (by first | exact rdAt 0 rfl | exact rdOwnAt 0 rfl | exact rdAt 1 rfl | exact rdOwnAt 1 rfl | exact rdAt 2 rfl | exact rdOwnAt 2 rfl | exact rdAt 3 rfl | exact rdOwnAt 3 rfl | exact rdAt 4 rfl | exact rdOwnAt 4 rfl | exact rdAt 5 rfl | exact rdOwnAt 5 rfl | exact rdAt 6 rfl | exact rdOwnAt 6 rfl | exact rdAt 7 rfl | exact rdOwnAt 7 rfl | exact rdAt 8 rfl | exact rdOwnAt 8 rfl | exact rdAt 9 rfl | exact rdOwnAt 9 rfl | exact rdAt 10 rfl | exact rdOwnAt 10 rfl | exact rdAt 11 rfl | exact rdOwnAt 11 rfl | exact rdAt 12 rfl | exact rdOwnAt 12 rfl | exact rdAt 13 rfl | exact rdOwnAt 13 rfl | exact rdAt 14 rfl | exact rdOwnAt 14 rfl | exact rdAt 15 rfl | exact rdOwnAt 15 rfl | exact rdAt 16 rfl | exact rdOwnAt 16 rfl | exact rdAt 17 rfl | exact rdOwnAt 17 rfl | exact rdAt 18 rfl | exact rdOwnAt 18 rfl | exact rdAt 19 rfl | exact rdOwnAt 19 rfl | exact rdAt 20 rfl | exact rdOwnAt 20 rfl | exact rdAt 21 rfl | exact rdOwnAt 21 rfl | exact rdAt 22 rfl | exact rdOwnAt 22 rfl | exact rdAt 23 rfl | exact rdOwnAt 23 rfl) (by first | omega | (simp; done) | (simp; omega) | (unfold maxLen; omega) | (unfold maxLen; simp; done) | (unfold maxLen; simp; omega)) (by first | omega | (simp; done) | (simp; omega) | (unfold maxLen; omega) | (unfold maxLen; simp; done) | (unfold maxLen; simp; omega)) (fun a2 => ?_)
    rw [eP]
    refine CaseB.mk (fun g => ?_) (fun g => ?_)
    · have q : (p.threads[k]).m.length = 0 := by simp at g; simp [g]
      refine AllSl.mk fun u2 => ?_
      refine stop_app encInt 3 tabOk (ys := [3]) rfl rfl rfl rfl rfl rfl rfl rfl rfl (by decide) ⟨rfl, rfl⟩ rfl (by first | exact rdAt 0 rfl | exact rdOwnAt 0 rfl | exact rdAt 1 rfl | exact rdOwnAt 1 rfl | exact rdAt 2 rfl | exact rdOwnAt 2 rfl | exact rdAt 3 rfl | exact rdOwnAt 3 rfl | exact rdAt 4 rfl | exact rdOwnAt 4 rfl | exact rdAt 5 rfl | exact rdOwnAt 5 rfl | exact rdAt 6 rfl | exact rdOwnAt 6 rfl | exact rdAt 7 rfl | exact rdOwnAt 7 rfl | exact rdAt 8 rfl | exact rdOwnAt 8 rfl | exact rdAt 9 rfl | exact rdOwnAt 9 rfl | exact rdAt 10 rfl | exact rdOwnAt 10 rfl | exact rdAt 11 rfl | exact rdOwnAt 11 rfl | exact rdAt 12 rfl | exact rdOwnAt 12 rfl | exact rdAt 13 rfl | exact rdOwnAt 13 rfl | exact rdAt 14 rfl | exact rdOwnAt 14 rfl | exact rdAt 15 rfl | exact rdOwnAt 15 rfl | exact rdAt 16 rfl | exact rdOwnAt 16 rfl | exact rdAt 17 rfl | exact rdOwnAt 17 rfl | exact rdAt 18 rfl | exact rdOwnAt 18 rfl | exact rdAt 19 rfl | exact rdOwnAt 19 rfl | exact rdAt 20 rfl | exact rdOwnAt 20 rfl | exact rdAt 21 rfl | exact rdOwnAt 21 rfl | exact rdAt 22 rfl | exact rdOwnAt 22 rfl | exact rdAt 23 rfl | exact rdOwnAt 23 rfl) (by first | omega | (simp; done) | (simp; omega) | (unfold maxLen; omega) | (unfold maxLen; simp; done) | (unfold maxLen; simp; omega)) (by first | omega | (simp; done) | (simp; omega) | (unfold maxLen; omega) | (unfold maxLen; simp; done) | (unfold maxLen; simp; omega)) (fun s2 => ?_)
      rw [eS 3 (by simp [rest, q])]
      refine ⟨⟨(k + 1, a2, s2), by omega⟩, ?_, by simp only; omega⟩
      refine weak_mk [2, 0, 4, 5] ?_ ?_ ?_ ?_ ?_ rfl rfl
      · repeat (first | exact trivial | refine ⟨⟨_, rfl, (by first | exact .of rfl | exact .lit rfl | exact .of (by first | ((exact congrArg (fun z => SV.v (Value.int .i64 z)) hw))) | exact .lit (by first | ((exact congrArg (fun z => SV.v (Value.int .i64 z)) hw)))), (by first | exact trivial | exact Nat.le_of_ble_eq_true rfl)⟩, ?_⟩)
      · repeat (first | exact trivial | refine ⟨⟨(by first | exact .head _ | exact .tail _ (.head _) | exact .tail _ (.tail _ (.head _)) | exact .tail _ (.tail _ (.tail _ (.head _))) | exact .tail _ (.tail _ (.tail _ (.tail _ (.head _)))) | exact .tail _ (.tail _ (.tail _ (.tail _ (.tail _ (.head _))))) | exact .tail _ (.tail _ (.tail _ (.tail _ (.tail _ (.tail _ (.head _)))))) | exact .tail _ (.tail _ (.tail _ (.tail _ (.tail _ (.tail _ (.tail _ (.head _))))))) | exact .tail _ (.tail _ (.tail _ (.tail _ (.tail _ (.tail _ (.tail _ (.tail _ (.head _)))))))) | exact .tail _ (.tail _ (.tail _ (.tail _ (.tail _ (.tail _ (.tail _ (.tail _ (.tail _ (.head _)))))))))), Nat.le_of_ble_eq_true rfl⟩, ?_⟩)
      · repeat (first | exact trivial | refine ⟨⟨_, rfl, (by first | exact .of rfl | exact .lit rfl | exact .of (by first | ((exact congrArg (fun z => SV.v (Value.int .i64 z)) hw))) | exact .lit (by first | ((exact congrArg (fun z => SV.v (Value.int .i64 z)) hw)))), (by first | exact trivial | exact Nat.le_of_ble_eq_true rfl)⟩, ?_⟩)
      · repeat (first | exact trivial | refine ⟨⟨_, rfl⟩, ?_⟩)
      · repeat (first | exact trivial | refine ⟨.inl ⟨_, rfl, (by first | rfl | ((exact congrArg (fun z => SV.v (Value.int .i64 z)) hw)))⟩, ?_⟩ | refine ⟨.inr ⟨Nat.le_of_ble_eq_true rfl, rfl, rfl, rfl, rfl⟩, ?_⟩)
    · have q : ¬ (p.threads[k]).m.length = 0 := by simp at g; simp [g]
      refine AllSl.mk fun u2 => ?_
      refine stop_app encInt 3 tabOk (ys := [0]) rfl rfl rfl rfl rfl rfl rfl rfl rfl (by decide) ⟨rfl, rfl⟩ rfl (by first | exact rdAt 0 rfl | exact rdOwnAt 0 rfl | exact rdAt 1 rfl | exact rdOwnAt 1 rfl | exact rdAt 2 rfl | exact rdOwnAt 2 rfl | exact rdAt 3 rfl | exact rdOwnAt 3 rfl | exact rdAt 4 rfl | exact rdOwnAt 4 rfl | exact rdAt 5 rfl | exact rdOwnAt 5 rfl | exact rdAt 6 rfl | exact rdOwnAt 6 rfl | exact rdAt 7 rfl | exact rdOwnAt 7 rfl | exact rdAt 8 rfl | exact rdOwnAt 8 rfl | exact rdAt 9 rfl | exact rdOwnAt 9 rfl | exact rdAt 10 rfl | exact rdOwnAt 10 rfl | exact rdAt 11 rfl | exact rdOwnAt 11 rfl | exact rdAt 12 rfl | exact rdOwnAt 12 rfl | exact rdAt 13 rfl | exact rdOwnAt 13 rfl | exact rdAt 14 rfl | exact rdOwnAt 14 rfl | exact rdAt 15 rfl | exact rdOwnAt 15 rfl | exact rdAt 16 rfl | exact rdOwnAt 16 rfl | exact rdAt 17 rfl | exact rdOwnAt 17 rfl | exact rdAt 18 rfl | exact rdOwnAt 18 rfl | exact rdAt 19 rfl | exact rdOwnAt 19 rfl | exact rdAt 20 rfl | exact rdOwnAt 20 rfl | exact rdAt 21 rfl | exact rdOwnAt 21 rfl | exact rdAt 22 rfl | exact rdOwnAt 22 rfl | exact rdAt 23 rfl | exact rdOwnAt 23 rfl) (by first | omega | (simp; done) | (simp; omega) | (unfold maxLen; omega) | (unfold maxLen; simp; done) | (unfold maxLen; simp; omega)) (by first | omega | (simp; done) | (simp; omega) | (unfold maxLen; omega) | (unfold maxLen; simp; done) | (unfold maxLen; simp; omega)) (fun s2 => ?_)
      rw [eS 0 (by simp [rest, q])]
      refine ⟨⟨(k + 1, a2, s2), by omega⟩, ?_, by simp only; omega⟩
      refine weak_mk [2, 0, 4, 5] ?_ ?_ ?_ ?_ ?_ rfl rfl
      · repeat (first | exact trivial | refine ⟨⟨_, rfl, (by first | exact .of rfl | exact .lit rfl | exact .of (by first | ((exact congrArg (fun z => SV.v (Value.int .i64 z)) hw))) | exact .lit (by first | ((exact congrArg (fun z => SV.v (Value.int .i64 z)) hw)))), (by first | exact trivial | exact Nat.le_of_ble_eq_true rfl)⟩, ?_⟩)
      · repeat (first | exact trivial | refine ⟨⟨(by first | exact .head _ | exact .tail _ (.head _) | exact .tail _ (.tail _ (.head _)) | exact .tail _ (.tail _ (.tail _ (.head _))) | exact .tail _ (.tail _ (.tail _ (.tail _ (.head _)))) | exact .tail _ (.tail _ (.tail _ (.tail _ (.tail _ (.head _))))) | exact .tail _ (.tail _ (.tail _ (.tail _ (.tail _ (.tail _ (.head _)))))) | exact .tail _ (.tail _ (.tail _ (.tail _ (.tail _ (.tail _ (.tail _ (.head _))))))) | exact .tail _ (.tail _ (.tail _ (.tail _ (.tail _ (.tail _ (.tail _ (.tail _ (.head _)))))))) | exact .tail _ (.tail _ (.tail _ (.tail _ (.tail _ (.tail _ (.tail _ (.tail _ (.tail _ (.head _)))))))))), Nat.le_of_ble_eq_true rfl⟩, ?_⟩)
      · repeat (first | exact trivial | refine ⟨⟨_, rfl, (by first | exact .of rfl | exact .lit rfl | exact .of (by first | ((exact congrArg (fun z => SV.v (Value.int .i64 z)) hw))) | exact .lit (by first | ((exact congrArg (fun z => SV.v (Value.int .i64 z)) hw)))), (by first | exact trivial | exact Nat.le_of_ble_eq_true rfl)⟩, ?_⟩)
      · repeat (first | exact trivial | refine ⟨⟨_, rfl⟩, ?_⟩)
      · repeat (first | exact trivial | refine ⟨.inl ⟨_, rfl, (by first | rfl | ((exact congrArg (fun z => SV.v (Value.int .i64 z)) hw)))⟩, ?_⟩ | refine ⟨.inr ⟨Nat.le_of_ble_eq_true rfl, rfl, rfl, rfl, rfl⟩, ?_⟩)
  have hge : p.threads.length ≤ k := by simpa using g
  have eP : LP.take k = LP := List.take_of_length_le (by omega)
  have eS : LS.take k = LS := List.take_of_length_le (by omega)
  obtain ⟨L0, hL0⟩ : ∃ l, l = p.sems.map (fun n => (⟨⟨n, n, []⟩, ⟨none, 0⟩⟩ : SemH)) := ⟨_, rfl⟩
  have lenL0 : L0.length = p.sems.length := by rw [hL0]; simp
  refine LoopW.mk ⟨{ q : Nat × Sl // q.1 ≤ p.sems.length },
    fun q => .mk [(1, .p 0 0), (2, .p 1 0), (4, .p 2 0), (45, .v (p.h0.val p.sems.length)), (46, .v (.int .i64 (p.sems.length : Int))), (47, .v (.int .i64 (q.1.1 : Int)))] 3 0 [(0, 44, 5), (1, 38, 9), (2, 38, 9)]
      [((0, 0), .v (p.h0.val p.sems.length)), ((0, 1), .v (p.h1.val p.groups.length)), ((0, 2), .v (p.h2.val p.barriers.length)), ((0, 3), .v (p.h3.val p.rooms.length)), ((0, 4), .v (p.h4.val p.threads.length)), ((2, 0), .v (a.val LP.length)), ((2, 1), .v (s.val LS.length)), ((2, 2), .v (q.1.2.val (L0.take q.1.1).length)), ((2, 3), .v (y.val 3)), ((2, 4), .v (.slice none 0 0)), ((2, 5), .v (.slice none 0 0)), ((2, 6), .v (.slice none 0 0)), ((2, 7), .v (.slice none 0 0)), ((2, 8), .v (.int .i64 0))]
      [own q.1.2 85 cSemH 3 (L0.take q.1.1), own a 3 cInt 1 LP, own s 3 cInt 1 LS, own y 89 cOnceH 4 [onceZ, onceZ, onceZ], fR (progO p)],
    fun q => p.sems.length - q.1.1, ⟨(0, ⟨none, 0⟩), Nat.zero_le _⟩, ?_, ?_⟩
  · refine weak_mk [99, 0, 1, 2, 3] ?_ ?_ ?_ ?_ ?_ rfl rfl
    · repeat (first | exact trivial | refine ⟨⟨_, rfl, (by first | exact .of rfl | exact .lit rfl | exact .of (by first | ((first | (rw [eP]; done) | (rw [eS]; done)))) | exact .lit (by first | ((first | (rw [eP]; done) | (rw [eS]; done))))), (by first | exact trivial | exact Nat.le_of_ble_eq_true rfl)⟩, ?_⟩)
    · repeat (first | exact trivial | refine ⟨⟨(by first | exact .head _ | exact .tail _ (.head _) | exact .tail _ (.tail _ (.head _)) | exact .tail _ (.tail _ (.tail _ (.head _))) | exact .tail _ (.tail _ (.tail _ (.tail _ (.head _)))) | exact .tail _ (.tail _ (.tail _ (.tail _ (.tail _ (.head _))))) | exact .tail _ (.tail _ (.tail _ (.tail _ (.tail _ (.tail _ (.head _)))))) | exact .tail _ (.tail _ (.tail _ (.tail _ (.tail _ (.tail _ (.tail _ (.head _))))))) | exact .tail _ (.tail _ (.tail _ (.tail _ (.tail _ (.tail _ (.tail _ (.tail _ (.head _)))))))) | exact .tail _ (.tail _ (.tail _ (.tail _ (.tail _ (.tail _ (.tail _ (.tail _ (.tail _ (.head _)))))))))), Nat.le_of_ble_eq_true rfl⟩, ?_⟩)
    · repeat (first | exact trivial | refine ⟨⟨_, rfl, (by first | exact .of rfl | exact .lit rfl | exact .of (by first | ((first | (rw [eP]; done) | (rw [eS]; done)))) | exact .lit (by first | ((first | (rw [eP]; done) | (rw [eS]; done))))), (by first | exact trivial | exact Nat.le_of_ble_eq_true rfl)⟩, ?_⟩)
    · repeat (first | exact trivial | refine ⟨⟨_, rfl⟩, ?_⟩)
    · repeat (first | exact trivial | refine ⟨.inl ⟨_, rfl, (by first | rfl | ((first | (rw [eP]; done) | (rw [eS]; done))))⟩, ?_⟩ | refine ⟨.inr ⟨Nat.le_of_ble_eq_true rfl, rfl, rfl, rfl, rfl⟩, ?_⟩)
  rintro ⟨⟨k0, c0⟩, hk⟩
  simp only at hk
  refine CaseB.mk (fun g => ?_) (fun g => ?_)
  · have hlt : k0 < p.sems.length := by simpa using g
    have e : ∀ x, x = (⟨⟨p.sems[k0], p.sems[k0], []⟩, ⟨none, 0⟩⟩ : SemH) → L0.take k0 ++ [x] = L0.take (k0 + 1) := fun x hx => by rw [hL0]; exact map_take_succ hlt rfl hx
    have hw := e_succ k0 _ hlt (by omega)
    refine stop_idx encInt tabOk rfl rfl rfl rfl rfl ⟨rfl, rfl⟩ (rdVia 4 rfl (.ofR (progO_sems p))) k0 rfl (by first | omega | (simp; done) | (simp; omega) | (unfold maxLen; omega) | (unfold maxLen; simp; done) | (unfold maxLen; simp; omega)) (fun ad => ?_)
    refine AllSl.mk fun u => ?_
    refine stop_app encSemH 1 tabOk (ys := [⟨⟨p.sems[k0], p.sems[k0], []⟩, ⟨none, 0⟩⟩]) rfl rfl rfl rfl rfl rfl rfl rfl rfl (by decide) ⟨rfl, rfl⟩ rfl (by first | exact rdAt 0 rfl | exact rdOwnAt 0 rfl | exact rdAt 1 rfl | exact rdOwnAt 1 rfl | exact rdAt 2 rfl | exact rdOwnAt 2 rfl | exact rdAt 3 rfl | exact rdOwnAt 3 rfl | exact rdAt 4 rfl | exact rdOwnAt 4 rfl | exact rdAt 5 rfl | exact rdOwnAt 5 rfl | exact rdAt 6 rfl | exact rdOwnAt 6 rfl | exact rdAt 7 rfl | exact rdOwnAt 7 rfl | exact rdAt 8 rfl | exact rdOwnAt 8 rfl | exact rdAt 9 rfl | exact rdOwnAt 9 rfl | exact rdAt 10 rfl | exact rdOwnAt 10 rfl | exact rdAt 11 rfl | exact rdOwnAt 11 rfl | exact rdAt 12 rfl | exact rdOwnAt 12 rfl | exact rdAt 13 rfl | exact rdOwnAt 13 rfl | exact rdAt 14 rfl | exact rdOwnAt 14 rfl | exact rdAt 15 rfl | exact rdOwnAt 15 rfl | exact rdAt 16 rfl | exact rdOwnAt 16 rfl | exact rdAt 17 rfl | exact rdOwnAt 17 rfl | exact rdAt 18 rfl | exact rdOwnAt 18 rfl | exact rdAt 19 rfl | exact rdOwnAt 19 rfl | exact rdAt 20 rfl | exact rdOwnAt 20 rfl | exact rdAt 21 rfl | exact rdOwnAt 21 rfl | exact rdAt 22 rfl | exact rdOwnAt 22 rfl | exact rdAt 23 rfl | exact rdOwnAt 23 rfl) (by first | omega | (simp; done) | (simp; omega) | (unfold maxLen; omega) | (unfold maxLen; simp; done) | (unfold maxLen; simp; omega)) (by first | omega | (simp; done) | (simp; omega) | (unfold maxLen; omega) | (unfold maxLen; simp; done) | (unfold maxLen; simp; omega)) (fun c0' => ?_)
    rw [e _ rfl]
    refine ⟨⟨(k0 + 1, c0'), by omega⟩, ?_, by simp only; omega⟩
    refine weak_mk [0, 2, 3, 4, 5] ?_ ?_ ?_ ?_ ?_ rfl rfl
    · repeat (first | exact trivial | refine ⟨⟨_, rfl, (by first | exact .of rfl | exact .lit rfl | exact .of (by first | ((exact congrArg (fun z => SV.v (Value.int .i64 z)) hw))) | exact .lit (by first | ((exact congrArg (fun z => SV.v (Value.int .i64 z)) hw)))), (by first | exact trivial | exact Nat.le_of_ble_eq_true rfl)⟩, ?_⟩)
    · repeat (first | exact trivial | refine ⟨⟨(by first | exact .head _ | exact .tail _ (.head _) | exact .tail _ (.tail _ (.head _)) | exact .tail _ (.tail _ (.tail _ (.head _))) | exact .tail _ (.tail _ (.tail _ (.tail _ (.head _)))) | exact .tail _ (.tail _ (.tail _ (.tail _ (.tail _ (.head _))))) | exact .tail _ (.tail _ (.tail _ (.tail _ (.tail _ (.tail _ (.head _)))))) | exact .tail _ (.tail _ (.tail _ (.tail _ (.tail _ (.tail _ (.tail _ (.head _))))))) | exact .tail _ (.tail _ (.tail _ (.tail _ (.tail _ (.tail _ (.tail _ (.tail _ (.head _)))))))) | exact .tail _ (.tail _ (.tail _ (.tail _ (.tail _ (.tail _ (.tail _ (.tail _ (.tail _ (.head _)))))))))), Nat.le_of_ble_eq_true rfl⟩, ?_⟩)
    · repeat (first | exact trivial | refine ⟨⟨_, rfl, (by first | exact .of rfl | exact .lit rfl | exact .of (by first | ((exact congrArg (fun z => SV.v (Value.int .i64 z)) hw))) | exact .lit (by first | ((exact congrArg (fun z => SV.v (Value.int .i64 z)) hw)))), (by first | exact trivial | exact Nat.le_of_ble_eq_true rfl)⟩, ?_⟩)
    · repeat (first | exact trivial | refine ⟨⟨_, rfl⟩, ?_⟩)
    · repeat (first | exact trivial | refine ⟨.inl ⟨_, rfl, (by first | rfl | ((exact congrArg (fun z => SV.v (Value.int .i64 z)) hw)))⟩, ?_⟩ | refine ⟨.inr ⟨Nat.le_of_ble_eq_true rfl, rfl, rfl, rfl, rfl⟩, ?_⟩)
  have hge0 : p.sems.length ≤ k0 := by simpa using g
  have e0 : L0.take k0 = L0 := List.take_of_length_le (by omega)
  obtain ⟨L1, hL1⟩ : ∃ l, l = p.groups.map (fun n => (⟨⟨n, []⟩, ⟨none, 0⟩⟩ : GroupH)) := ⟨_, rfl⟩
  have lenL1 : L1.length = p.groups.length := by rw [hL1]; simp
  refine LoopW.mk ⟨{ q : Nat × Sl // q.1 ≤ p.groups.length },
    fun q => .mk [(1, .p 0 0), (2, .p 1 0), (4, .p 2 0), (61, .v (p.h1.val p.groups.length)), (62, .v (.int .i64 (p.groups.length : Int))), (63, .v (.int .i64 (q.1.1 : Int)))] 3 0 [(0, 44, 5), (1, 38, 9), (2, 38, 9)]
      [((0, 0), .v (p.h0.val p.sems.length)), ((0, 1), .v (p.h1.val p.groups.length)), ((0, 2), .v (p.h2.val p.barriers.length)), ((0, 3), .v (p.h3.val p.rooms.length)), ((0, 4), .v (p.h4.val p.threads.length)), ((2, 0), .v (a.val LP.length)), ((2, 1), .v (s.val LS.length)), ((2, 2), .v (c0.val L0.length)), ((2, 3), .v (y.val 3)), ((2, 4), .v (q.1.2.val (L1.take q.1.1).length)), ((2, 5), .v (.slice none 0 0)), ((2, 6), .v (.slice none 0 0)), ((2, 7), .v (.slice none 0 0)), ((2, 8), .v (.int .i64 0))]
      [own q.1.2 93 cGroupH 2 (L1.take q.1.1), own c0 85 cSemH 3 L0, own a 3 cInt 1 LP, own s 3 cInt 1 LS, own y 89 cOnceH 4 [onceZ, onceZ, onceZ], fR (progO p)],
    fun q => p.groups.length - q.1.1, ⟨(0, ⟨none, 0⟩), Nat.zero_le _⟩, ?_, ?_⟩
  · refine weak_mk [99, 0, 1, 2, 3, 4] ?_ ?_ ?_ ?_ ?_ rfl rfl
    · repeat (first | exact trivial | refine ⟨⟨_, rfl, (by first | exact .of rfl | exact .lit rfl | exact .of (by first | ((first | (rw [e0]; done)))) | exact .lit (by first | ((first | (rw [e0]; done))))), (by first | exact trivial | exact Nat.le_of_ble_eq_true rfl)⟩, ?_⟩)
    · repeat (first | exact trivial | refine ⟨⟨(by first | exact .head _ | exact .tail _ (.head _) | exact .tail _ (.tail _ (.head _)) | exact .tail _ (.tail _ (.tail _ (.head _))) | exact .tail _ (.tail _ (.tail _ (.tail _ (.head _)))) | exact .tail _ (.tail _ (.tail _ (.tail _ (.tail _ (.head _))))) | exact .tail _ (.tail _ (.tail _ (.tail _ (.tail _ (.tail _ (.head _)))))) | exact .tail _ (.tail _ (.tail _ (.tail _ (.tail _ (.tail _ (.tail _ (.head _))))))) | exact .tail _ (.tail _ (.tail _ (.tail _ (.tail _ (.tail _ (.tail _ (.tail _ (.head _)))))))) | exact .tail _ (.tail _ (.tail _ (.tail _ (.tail _ (.tail _ (.tail _ (.tail _ (.tail _ (.head _)))))))))), Nat.le_of_ble_eq_true rfl⟩, ?_⟩)
    · repeat (first | exact trivial | refine ⟨⟨_, rfl, (by first | exact .of rfl | exact .lit rfl | exact .of (by first | ((first | (rw [e0]; done)))) | exact .lit (by first | ((first | (rw [e0]; done))))), (by first | exact trivial | exact Nat.le_of_ble_eq_true rfl)⟩, ?_⟩)
    · repeat (first | exact trivial | refine ⟨⟨_, rfl⟩, ?_⟩)
    · repeat (first | exact trivial | refine ⟨.inl ⟨_, rfl, (by first | rfl | ((first | (rw [e0]; done))))⟩, ?_⟩ | refine ⟨.inr ⟨Nat.le_of_ble_eq_true rfl, rfl, rfl, rfl, rfl⟩, ?_⟩)
  rintro ⟨⟨k1, c1⟩, hk⟩
  simp only at hk
  refine CaseB.mk (fun g => ?_) (fun g => ?_)
  · have hlt : k1 < p.groups.length := by simpa using g
    have e : ∀ x, x = (⟨⟨p.groups[k1], []⟩, ⟨none, 0⟩⟩ : GroupH) → L1.take k1 ++ [x] = L1.take (k1 + 1) := fun x hx => by rw [hL1]; exact map_take_succ hlt rfl hx
    have hw := e_succ k1 _ hlt (by omega)
    refine stop_idx encInt tabOk rfl rfl rfl rfl rfl ⟨rfl, rfl⟩ (rdVia 5 rfl (.ofR (progO_groups p))) k1 rfl (by first | omega | (simp; done) | (simp; omega) | (unfold maxLen; omega) | (unfold maxLen; simp; done) | (unfold maxLen; simp; omega)) (fun ad => ?_)
    refine AllSl.mk fun u => ?_
    refine stop_app encGroupH 1 tabOk (ys := [⟨⟨p.groups[k1], []⟩, ⟨none, 0⟩⟩]) rfl rfl rfl rfl rfl rfl rfl rfl rfl (by decide) ⟨rfl, rfl⟩ rfl (by first | exact rdAt 0 rfl | exact rdOwnAt 0 rfl | exact rdAt 1 rfl | exact rdOwnAt 1 rfl | exact rdAt 2 rfl | exact rdOwnAt 2 rfl | exact rdAt 3 rfl | exact rdOwnAt 3 rfl | exact rdAt 4 rfl | exact rdOwnAt 4 rfl | exact rdAt 5 rfl | exact rdOwnAt 5 rfl | exact rdAt 6 rfl | exact rdOwnAt 6 rfl | exact rdAt 7 rfl | exact rdOwnAt 7 rfl | exact rdAt 8 rfl | exact rdOwnAt 8 rfl | exact rdAt 9 rfl | exact rdOwnAt 9 rfl | exact rdAt 10 rfl | exact rdOwnAt 10 rfl | exact rdAt 11 rfl | exact rdOwnAt 11 rfl | exact rdAt 12 rfl | exact rdOwnAt 12 rfl | exact rdAt 13 rfl | exact rdOwnAt 13 rfl | exact rdAt 14 rfl | exact rdOwnAt 14 rfl | exact rdAt 15 rfl | exact rdOwnAt 15 rfl | exact rdAt 16 rfl | exact rdOwnAt 16 rfl | exact rdAt 17 rfl | exact rdOwnAt 17 rfl | exact rdAt 18 rfl | exact rdOwnAt 18 rfl | exact rdAt 19 rfl | exact rdOwnAt 19 rfl | exact rdAt 20 rfl | exact rdOwnAt 20 rfl | exact rdAt 21 rfl | exact rdOwnAt 21 rfl | exact rdAt 22 rfl | exact rdOwnAt 22 rfl | exact rdAt 23 rfl | exact rdOwnAt 23 rfl) (by first | omega | (simp; done) | (simp; omega) | (unfold maxLen; omega) | (unfold maxLen; simp; done) | (unfold maxLen; simp; omega)) (by first | omega | (simp; done) | (simp; omega) | (unfold maxLen; omega) | (unfold maxLen; simp; done) | (unfold maxLen; simp; omega)) (fun c1' => ?_)
    rw [e _ rfl]
    refine ⟨⟨(k1 + 1, c1'), by omega⟩, ?_, by simp only; omega⟩
    refine weak_mk [0, 2, 3, 4, 5, 6] ?_ ?_ ?_ ?_ ?_ rfl rfl
    · repeat (first | exact trivial | refine ⟨⟨_, rfl, (by first | exact .of rfl | exact .lit rfl | exact .of (by first | ((exact congrArg (fun z => SV.v (Value.int .i64 z)) hw))) | exact .lit (by first | ((exact congrArg (fun z => SV.v (Value.int .i64 z)) hw)))), (by first | exact trivial | exact Nat.le_of_ble_eq_true rfl)⟩, ?_⟩)
    · repeat (first | exact trivial | refine ⟨⟨(by first | exact .head _ | exact .tail _ (.head _) | exact .tail _ (.tail _ (.head _)) | exact .tail _ (.tail _ (.tail _ (.head _))) | exact .tail _ (.tail _ (.tail _ (.tail _ (.head _)))) | exact .tail _ (.tail _ (.tail _ (.tail _ (.tail _ (.head _))))) | exact .tail _ (.tail _ (.tail _ (.tail _ (.tail _ (.tail _ (.head _)))))) | exact .tail _ (.tail _ (.tail _ (.tail _ (.tail _ (.tail _ (.tail _ (.head _))))))) | exact .tail _ (.tail _ (.tail _ (.tail _ (.tail _ (.tail _ (.tail _ (.tail _ (.head _)))))))) | exact .tail _ (.tail _ (.tail _ (.tail _ (.tail _ (.tail _ (.tail _ (.tail _ (.tail _ (.head _)))))))))), Nat.le_of_ble_eq_true rfl⟩, ?_⟩)
    · repeat (first | exact trivial | refine ⟨⟨_, rfl, (by first | exact .of rfl | exact .lit rfl | exact .of (by first | ((exact congrArg (fun z => SV.v (Value.int .i64 z)) hw))) | exact .lit (by first | ((exact congrArg (fun z => SV.v (Value.int .i64 z)) hw)))), (by first | exact trivial | exact Nat.le_of_ble_eq_true rfl)⟩, ?_⟩)
    · repeat (first | exact trivial | refine ⟨⟨_, rfl⟩, ?_⟩)
    · repeat (first | exact trivial | refine ⟨.inl ⟨_, rfl, (by first | rfl | ((exact congrArg (fun z => SV.v (Value.int .i64 z)) hw)))⟩, ?_⟩ | refine ⟨.inr ⟨Nat.le_of_ble_eq_true rfl, rfl, rfl, rfl, rfl⟩, ?_⟩)
  have hge1 : p.groups.length ≤ k1 := by simpa using g
  have e1 : L1.take k1 = L1 := List.take_of_length_le (by omega)
  obtain ⟨L2, hL2⟩ : ∃ l, l = p.barriers.map (fun n => (⟨⟨n, 0, []⟩, ⟨none, 0⟩⟩ : BarrierH)) := ⟨_, rfl⟩
  have lenL2 : L2.length = p.barriers.length := by rw [hL2]; simp
  refine LoopW.mk ⟨{ q : Nat × Sl // q.1 ≤ p.barriers.length },
    fun q => .mk [(1, .p 0 0), (2, .p 1 0), (4, .p 2 0), (76, .v (p.h2.val p.barriers.length)), (77, .v (.int .i64 (p.barriers.length : Int))), (78, .v (.int .i64 (q.1.1 : Int)))] 3 0 [(0, 44, 5), (1, 38, 9), (2, 38, 9)]
      [((0, 0), .v (p.h0.val p.sems.length)), ((0, 1), .v (p.h1.val p.groups.length)), ((0, 2), .v (p.h2.val p.barriers.length)), ((0, 3), .v (p.h3.val p.rooms.length)), ((0, 4), .v (p.h4.val p.threads.length)), ((2, 0), .v (a.val LP.length)), ((2, 1), .v (s.val LS.length)), ((2, 2), .v (c0.val L0.length)), ((2, 3), .v (y.val 3)), ((2, 4), .v (c1.val L1.length)), ((2, 5), .v (q.1.2.val (L2.take q.1.1).length)), ((2, 6), .v (.slice none 0 0)), ((2, 7), .v (.slice none 0 0)), ((2, 8), .v (.int .i64 0))]
      [own q.1.2 70 cBarrierH 3 (L2.take q.1.1), own c1 93 cGroupH 2 L1, own c0 85 cSemH 3 L0, own a 3 cInt 1 LP, own s 3 cInt 1 LS, own y 89 cOnceH 4 [onceZ, onceZ, onceZ], fR (progO p)],
    fun q => p.barriers.length - q.1.1, ⟨(0, ⟨none, 0⟩), Nat.zero_le _⟩, ?_, ?_⟩
  · refine weak_mk [99, 0, 1, 2, 3, 4, 5] ?_ ?_ ?_ ?_ ?_ rfl rfl
    · repeat (first | exact trivial | refine ⟨⟨_, rfl, (by first | exact .of rfl | exact .lit rfl | exact .of (by first | ((first | (rw [e1]; done)))) | exact .lit (by first | ((first | (rw [e1]; done))))), (by first | exact trivial | exact Nat.le_of_ble_eq_true rfl)⟩, ?_⟩)
    · repeat (first | exact trivial | refine ⟨⟨(by first | exact .head _ | exact .tail _ (.head _) | exact .tail _ (.tail _ (.head _)) | exact .tail _ (.tail _ (.tail _ (.head _))) | exact .tail _ (.tail _ (.tail _ (.tail _ (.head _)))) | exact .tail _ (.tail _ (.tail _ (.tail _ (.tail _ (.head _))))) | exact .tail _ (.tail _ (.tail _ (.tail _ (.tail _ (.tail _ (.head _)))))) | exact .tail _ (.tail _ (.tail _ (.tail _ (.tail _ (.tail _ (.tail _ (.head _))))))) | exact .tail _ (.tail _ (.tail _ (.tail _ (.tail _ (.tail _ (.tail _ (.tail _ (.head _)))))))) | exact .tail _ (.tail _ (.tail _ (.tail _ (.tail _ (.tail _ (.tail _ (.tail _ (.tail _ (.head _)))))))))), Nat.le_of_ble_eq_true rfl⟩, ?_⟩)
    · repeat (first | exact trivial | refine ⟨⟨_, rfl, (by first | exact .of rfl | exact .lit rfl | exact .of (by first | ((first | (rw [e1]; done)))) | exact .lit (by first | ((first | (rw [e1]; done))))), (by first | exact trivial | exact Nat.le_of_ble_eq_true rfl)⟩, ?_⟩)
    · repeat (first | exact trivial | refine ⟨⟨_, rfl⟩, ?_⟩)
    · repeat (first | exact trivial | refine ⟨.inl ⟨_, rfl, (by first | rfl | ((first | (rw [e1]; done))))⟩, ?_⟩ | refine ⟨.inr ⟨Nat.le_of_ble_eq_true rfl, rfl, rfl, rfl, rfl⟩, ?_⟩)
  rintro ⟨⟨k2, c2⟩, hk⟩
  simp only at hk
  refine CaseB.mk (fun g => ?_) (fun g => ?_)
  · have hlt : k2 < p.barriers.length := by simpa using g
    have e : ∀ x, x = (⟨⟨p.barriers[k2], 0, []⟩, ⟨none, 0⟩⟩ : BarrierH) → L2.take k2 ++ [x] = L2.take (k2 + 1) := fun x hx => by rw [hL2]; exact map_take_succ hlt rfl hx
    have hw := e_succ k2 _ hlt (by omega)
    refine stop_idx encInt tabOk rfl rfl rfl rfl rfl ⟨rfl, rfl⟩ (rdVia 6 rfl (.ofR (progO_barriers p))) k2 rfl (by first | omega | (simp; done) | (simp; omega) | (unfold maxLen; omega) | (unfold maxLen; simp; done) | (unfold maxLen; simp; omega)) (fun ad => ?_)
    refine AllSl.mk fun u => ?_
    refine stop_app encBarrierH 1 tabOk (ys := [⟨⟨p.barriers[k2], 0, []⟩, ⟨none, 0⟩⟩]) rfl rfl rfl rfl rfl rfl rfl rfl rfl (by decide) ⟨rfl, rfl⟩ rfl (by first | exact rdAt 0 rfl | exact rdOwnAt 0 rfl | exact rdAt 1 rfl | exact rdOwnAt 1 rfl | exact rdAt 2 rfl | exact rdOwnAt 2 rfl | exact rdAt 3 rfl | exact rdOwnAt 3 rfl | exact rdAt 4 rfl | exact rdOwnAt 4 rfl | exact rdAt 5 rfl | exact rdOwnAt 5 rfl | exact rdAt 6 rfl | exact rdOwnAt 6 rfl | exact rdAt 7 rfl | exact rdOwnAt 7 rfl | exact rdAt 8 rfl | exact rdOwnAt 8 rfl | exact rdAt 9 rfl | exact rdOwnAt 9 rfl | exact rdAt 10 rfl | exact rdOwnAt 10 rfl | exact rdAt 11 rfl | exact rdOwnAt 11 rfl | exact rdAt 12 rfl | exact rdOwnAt 12 rfl | exact rdAt 13 rfl | exact rdOwnAt 13 rfl | exact rdAt 14 rfl | exact rdOwnAt 14 rfl | exact rdAt 15 rfl | exact rdOwnAt 15 rfl | exact rdAt 16 rfl | exact rdOwnAt 16 rfl | exact rdAt 17 rfl | exact rdOwnAt 17 rfl | exact rdAt 18 rfl | exact rdOwnAt 18 rfl | exact rdAt 19 rfl | exact rdOwnAt 19 rfl | exact rdAt 20 rfl | exact rdOwnAt 20 rfl | exact rdAt 21 rfl | exact rdOwnAt 21 rfl | exact rdAt 22 rfl | exact rdOwnAt 22 rfl | exact rdAt 23 rfl | exact rdOwnAt 23 rfl) (by first | omega | (simp; done) | (simp; omega) | (unfold maxLen; omega) | (unfold maxLen; simp; done) | (unfold maxLen; simp; omega)) (by first | omega | (simp; done) | (simp; omega) | (unfold maxLen; omega) | (unfold maxLen; simp; done) | (unfold maxLen; simp; omega)) (fun c2' => ?_)
    rw [e _ rfl]
    refine ⟨⟨(k2 + 1, c2'), by omega⟩, ?_, by simp only; omega⟩
    refine weak_mk [0, 2, 3, 4, 5, 6, 7] ?_ ?_ ?_ ?_ ?_ rfl rfl
    · repeat (first | exact trivial | refine ⟨⟨_, rfl, (by first | exact .of rfl | exact .lit rfl | exact .of (by first | ((exact congrArg (fun z => SV.v (Value.int .i64 z)) hw))) | exact .lit (by first | ((exact congrArg (fun z => SV.v (Value.int .i64 z)) hw)))), (by first | exact trivial | exact Nat.le_of_ble_eq_true rfl)⟩, ?_⟩)
    · repeat (first | exact trivial | refine ⟨⟨(by first | exact .head _ | exact .tail _ (.head _) | exact .tail _ (.tail _ (.head _)) | exact .tail _ (.tail _ (.tail _ (.head _))) | exact .tail _ (.tail _ (.tail _ (.tail _ (.head _)))) | exact .tail _ (.tail _ (.tail _ (.tail _ (.tail _ (.head _))))) | exact .tail _ (.tail _ (.tail _ (.tail _ (.tail _ (.tail _ (.head _)))))) | exact .tail _ (.tail _ (.tail _ (.tail _ (.tail _ (.tail _ (.tail _ (.head _))))))) | exact .tail _ (.tail _ (.tail _ (.tail _ (.tail _ (.tail _ (.tail _ (.tail _ (.head _)))))))) | exact .tail _ (.tail _ (.tail _ (.tail _ (.tail _ (.tail _ (.tail _ (.tail _ (.tail _ (.head _)))))))))), Nat.le_of_ble_eq_true rfl⟩, ?_⟩)
    · repeat (first | exact trivial | refine ⟨⟨_, rfl, (by first | exact .of rfl | exact .lit rfl | exact .of (by first | ((exact congrArg (fun z => SV.v (Value.int .i64 z)) hw))) | exact .lit (by first | ((exact congrArg (fun z => SV.v (Value.int .i64 z)) hw)))), (by first | exact trivial | exact Nat.le_of_ble_eq_true rfl)⟩, ?_⟩)
    · repeat (first | exact trivial | refine ⟨⟨_, rfl⟩, ?_⟩)
    · repeat (first | exact trivial | refine ⟨.inl ⟨_, rfl, (by first | rfl | ((exact congrArg (fun z => SV.v (Value.int .i64 z)) hw)))⟩, ?_⟩ | refine ⟨.inr ⟨Nat.le_of_ble_eq_true rfl, rfl, rfl, rfl, rfl⟩, ?_⟩)
  have hge2 : p.barriers.length ≤ k2 := by simpa using g
  have e2 : L2.take k2 = L2 := List.take_of_length_le (by omega)
  obtain ⟨L3, hL3⟩ : ∃ l, l = p.rooms.map (fun n => (⟨⟨n, [], [], [], false⟩, ⟨none, 0⟩, ⟨none, 0⟩, ⟨none, 0⟩⟩ : ChanH)) := ⟨_, rfl⟩
  have lenL3 : L3.length = p.rooms.length := by rw [hL3]; simp
  refine LoopW.mk ⟨{ q : Nat × Sl // q.1 ≤ p.rooms.length },
    fun q => .mk [(1, .p 0 0), (2, .p 1 0), (4, .p 2 0), (91, .v (p.h3.val p.rooms.length)), (92, .v (.int .i64 (p.rooms.length : Int))), (93, .v (.int .i64 (q.1.1 : Int)))] 3 0 [(0, 44, 5), (1, 38, 9), (2, 38, 9)]
      [((0, 0), .v (p.h0.val p.sems.length)), ((0, 1), .v (p.h1.val p.groups.length)), ((0, 2), .v (p.h2.val p.barriers.length)), ((0, 3), .v (p.h3.val p.rooms.length)), ((0, 4), .v (p.h4.val p.threads.length)), ((2, 0), .v (a.val LP.length)), ((2, 1), .v (s.val LS.length)), ((2, 2), .v (c0.val L0.length)), ((2, 3), .v (y.val 3)), ((2, 4), .v (c1.val L1.length)), ((2, 5), .v (c2.val L2.length)), ((2, 6), .v (q.1.2.val (L3.take q.1.1).length)), ((2, 7), .v (.slice none 0 0)), ((2, 8), .v (.int .i64 0))]
      [own q.1.2 74 cChanH 5 (L3.take q.1.1), own c2 70 cBarrierH 3 L2, own c1 93 cGroupH 2 L1, own c0 85 cSemH 3 L0, own a 3 cInt 1 LP, own s 3 cInt 1 LS, own y 89 cOnceH 4 [onceZ, onceZ, onceZ], fR (progO p)],
    fun q => p.rooms.length - q.1.1, ⟨(0, ⟨none, 0⟩), Nat.zero_le _⟩, ?_, ?_⟩
  · refine weak_mk [99, 0, 1, 2, 3, 4, 5, 6] ?_ ?_ ?_ ?_ ?_ rfl rfl
    · repeat (first | exact trivial | refine ⟨⟨_, rfl, (by first | exact .of rfl | exact .lit rfl | exact .of (by first | ((first | (rw [e2]; done)))) | exact .lit (by first | ((first | (rw [e2]; done))))), (by first | exact trivial | exact Nat.le_of_ble_eq_true rfl)⟩, ?_⟩)
    · repeat (first | exact trivial | refine ⟨⟨(by first | exact .head _ | exact .tail _ (.head _) | exact .tail _ (.tail _ (.head _)) | exact .tail _ (.tail _ (.tail _ (.head _))) | exact .tail _ (.tail _ (.tail _ (.tail _ (.head _)))) | exact .tail _ (.tail _ (.tail _ (.tail _ (.tail _ (.head _))))) | exact .tail _ (.tail _ (.tail _ (.tail _ (.tail _ (.tail _ (.head _)))))) | exact .tail _ (.tail _ (.tail _ (.tail _ (.tail _ (.tail _ (.tail _ (.head _))))))) | exact .tail _ (.tail _ (.tail _ (.tail _ (.tail _ (.tail _ (.tail _ (.tail _ (.head _)))))))) | exact .tail _ (.tail _ (.tail _ (.tail _ (.tail _ (.tail _ (.tail _ (.tail _ (.tail _ (.head _)))))))))), Nat.le_of_ble_eq_true rfl⟩, ?_⟩)
    · repeat (first | exact trivial | refine ⟨⟨_, rfl, (by first | exact .of rfl | exact .lit rfl | exact .of (by first | ((first | (rw [e2]; done)))) | exact .lit (by first | ((first | (rw [e2]; done))))), (by first | exact trivial | exact Nat.le_of_ble_eq_true rfl)⟩, ?_⟩)
    · repeat (first | exact trivial | refine ⟨⟨_, rfl⟩, ?_⟩)
    · repeat (first | exact trivial | refine ⟨.inl ⟨_, rfl, (by first | rfl | ((first | (rw [e2]; done))))⟩, ?_⟩ | refine ⟨.inr ⟨Nat.le_of_ble_eq_true rfl, rfl, rfl, rfl, rfl⟩, ?_⟩)
  rintro ⟨⟨k3, c3⟩, hk⟩
  simp only at hk
  refine CaseB.mk (fun g => ?_) (fun g => ?_)
  · have hlt : k3 < p.rooms.length := by simpa using g
    have e : ∀ x, x = (⟨⟨p.rooms[k3], [], [], [], false⟩, ⟨none, 0⟩, ⟨none, 0⟩, ⟨none, 0⟩⟩ : ChanH) → L3.take k3 ++ [x] = L3.take (k3 + 1) := fun x hx => by rw [hL3]; exact map_take_succ hlt rfl hx
    have hw := e_succ k3 _ hlt (by omega)
    refine stop_idx encInt tabOk rfl rfl rfl rfl rfl ⟨rfl, rfl⟩ (rdVia 7 rfl (.ofR (progO_rooms p))) k3 rfl (by first | omega | (simp; done) | (simp; omega) | (unfold maxLen; omega) | (unfold maxLen; simp; done) | (unfold maxLen; simp; omega)) (fun ad => ?_)
    refine AllSl.mk fun u => ?_
    refine stop_app encChanH 1 tabOk (ys := [⟨⟨p.rooms[k3], [], [], [], false⟩, ⟨none, 0⟩, ⟨none, 0⟩, ⟨none, 0⟩⟩]) rfl rfl rfl rfl rfl rfl rfl rfl rfl (by decide) ⟨rfl, rfl⟩ rfl (by first | exact rdAt 0 rfl | exact rdOwnAt 0 rfl | exact rdAt 1 rfl | exact rdOwnAt 1 rfl | exact rdAt 2 rfl | exact rdOwnAt 2 rfl | exact rdAt 3 rfl | exact rdOwnAt 3 rfl | exact rdAt 4 rfl | exact rdOwnAt 4 rfl | exact rdAt 5 rfl | exact rdOwnAt 5 rfl | exact rdAt 6 rfl | exact rdOwnAt 6 rfl | exact rdAt 7 rfl | exact rdOwnAt 7 rfl | exact rdAt 8 rfl | exact rdOwnAt 8 rfl | exact rdAt 9 rfl | exact rdOwnAt 9 rfl | exact rdAt 10 rfl | exact rdOwnAt 10 rfl | exact rdAt 11 rfl | exact rdOwnAt 11 rfl | exact rdAt 12 rfl | exact rdOwnAt 12 rfl | exact rdAt 13 rfl | exact rdOwnAt 13 rfl | exact rdAt 14 rfl | exact rdOwnAt 14 rfl | exact rdAt 15 rfl | exact rdOwnAt 15 rfl | exact rdAt 16 rfl | exact rdOwnAt 16 rfl | exact rdAt 17 rfl | exact rdOwnAt 17 rfl | exact rdAt 18 rfl | exact rdOwnAt 18 rfl | exact rdAt 19 rfl | exact rdOwnAt 19 rfl | exact rdAt 20 rfl | exact rdOwnAt 20 rfl | exact rdAt 21 rfl | exact rdOwnAt 21 rfl | exact rdAt 22 rfl | exact rdOwnAt 22 rfl | exact rdAt 23 rfl | exact rdOwnAt 23 rfl) (by first | omega | (simp; done) | (simp; omega) | (unfold maxLen; omega) | (unfold maxLen; simp; done) | (unfold maxLen; simp; omega)) (by first | omega | (simp; done) | (simp; omega) | (unfold maxLen; omega) | (unfold maxLen; simp; done) | (unfold maxLen; simp; omega)) (fun c3' => ?_)
    rw [e _ rfl]
    refine ⟨⟨(k3 + 1, c3'), by omega⟩, ?_, by simp only; omega⟩
    refine weak_mk [0, 2, 3, 4, 5, 6, 7, 8] ?_ ?_ ?_ ?_ ?_ rfl rfl
    · repeat (first | exact trivial | refine ⟨⟨_, rfl, (by first | exact .of rfl | exact .lit rfl | exact .of (by first | ((exact congrArg (fun z => SV.v (Value.int .i64 z)) hw))) | exact .lit (by first | ((exact congrArg (fun z => SV.v (Value.int .i64 z)) hw)))), (by first | exact trivial | exact Nat.le_of_ble_eq_true rfl)⟩, ?_⟩)
    · repeat (first | exact trivial | refine ⟨⟨(by first | exact .head _ | exact .tail _ (.head _) | exact .tail _ (.tail _ (.head _)) | exact .tail _ (.tail _ (.tail _ (.head _))) | exact .tail _ (.tail _ (.tail _ (.tail _ (.head _)))) | exact .tail _ (.tail _ (.tail _ (.tail _ (.tail _ (.head _))))) | exact .tail _ (.tail _ (.tail _ (.tail _ (.tail _ (.tail _ (.head _)))))) | exact .tail _ (.tail _ (.tail _ (.tail _ (.tail _ (.tail _ (.tail _ (.head _))))))) | exact .tail _ (.tail _ (.tail _ (.tail _ (.tail _ (.tail _ (.tail _ (.tail _ (.head _)))))))) | exact .tail _ (.tail _ (.tail _ (.tail _ (.tail _ (.tail _ (.tail _ (.tail _ (.tail _ (.head _)))))))))), Nat.le_of_ble_eq_true rfl⟩, ?_⟩)
    · repeat (first | exact trivial | refine ⟨⟨_, rfl, (by first | exact .of rfl | exact .lit rfl | exact .of (by first | ((exact congrArg (fun z => SV.v (Value.int .i64 z)) hw))) | exact .lit (by first | ((exact congrArg (fun z => SV.v (Value.int .i64 z)) hw)))), (by first | exact trivial | exact Nat.le_of_ble_eq_true rfl)⟩, ?_⟩)
    · repeat (first | exact trivial | refine ⟨⟨_, rfl⟩, ?_⟩)
    · repeat (first | exact trivial | refine ⟨.inl ⟨_, rfl, (by first | rfl | ((exact congrArg (fun z => SV.v (Value.int .i64 z)) hw)))⟩, ?_⟩ | refine ⟨.inr ⟨Nat.le_of_ble_eq_true rfl, rfl, rfl, rfl, rfl⟩, ?_⟩)
  have hge3 : p.rooms.length ≤ k3 := by simpa using g
  have e3 : L3.take k3 = L3 := List.take_of_length_le (by omega)
  simp only [e3]
  generalize hy : (⟨LP, LS, L0, [onceZ, onceZ, onceZ], L1, L2, L3, [], 0, a, s, c0, y, c1, c2, c3, ⟨none, 0⟩⟩ : StateH) = Y
  have nil0 : ∀ g ∈ L0.flatMap semO, nilFact g := nilOf fun x hx g hg => by
    rw [hL0] at hx; obtain ⟨n, _, rfl⟩ := List.mem_map.1 hx; simp [semO] at hg; subst hg; exact ⟨rfl, rfl, rfl, rfl⟩
  have nil1 : ∀ g ∈ L1.flatMap groupO, nilFact g := nilOf fun x hx g hg => by
    rw [hL1] at hx; obtain ⟨n, _, rfl⟩ := List.mem_map.1 hx; simp [groupO] at hg; subst hg; exact ⟨rfl, rfl, rfl, rfl⟩
  have nil2 : ∀ g ∈ L2.flatMap barrierO, nilFact g := nilOf fun x hx g hg => by
    rw [hL2] at hx; obtain ⟨n, _, rfl⟩ := List.mem_map.1 hx; simp [barrierO] at hg; subst hg; exact ⟨rfl, rfl, rfl, rfl⟩
  have nil3 : ∀ g ∈ L3.flatMap chanO, nilFact g := nilOf fun x hx g hg => by
    rw [hL3] at hx; obtain ⟨n, _, rfl⟩ := List.mem_map.1 hx; simp [chanO] at hg; rcases hg with rfl | rfl | rfl <;> exact ⟨rfl, rfl, rfl, rfl⟩
  have nil4 : ∀ g ∈ [onceZ, onceZ, onceZ].flatMap onceO, nilFact g := nilOf fun x hx g hg => by
    simp at hx; subst hx; simp [onceO, onceZ] at hg; subst hg; exact ⟨rfl, rfl, rfl, rfl⟩
  have nil5 : ∀ g ∈ [own ⟨none, 0⟩ 3 cInt 1 ([] : List Int)], nilFact g := fun g hg => by
    simp at hg; subst hg; exact ⟨rfl, rfl, rfl, rfl⟩
  refine ret_shift (.joinO [4, 5, 3, 90, 6, 91, 2, 92, 1, 93, 0, 94, 95] (Gs := [[_], [_], [_], _, [_], _, [_], _, [_], _, [_], _, _])
    ⟨.inl ⟨_, rfl, .own⟩, .inl ⟨_, rfl, .own⟩, .inl ⟨_, rfl, .own⟩, .inr ⟨Nat.le_of_ble_eq_true rfl, nil0⟩, .inl ⟨_, rfl, .own⟩, .inr ⟨Nat.le_of_ble_eq_true rfl, nil4⟩, .inl ⟨_, rfl, .own⟩, .inr ⟨Nat.le_of_ble_eq_true rfl, nil1⟩, .inl ⟨_, rfl, .own⟩, .inr ⟨Nat.le_of_ble_eq_true rfl, nil2⟩, .inl ⟨_, rfl, .own⟩, .inr ⟨Nat.le_of_ble_eq_true rfl, nil3⟩, .inr ⟨Nat.le_of_ble_eq_true rfl, nil5⟩, trivial⟩ rfl (G := stateO Y) (.of_eq (by rw [← hy]; simp [stateO, semsO, oncesO, groupsO, barriersO, chansO, nestO]))) ?_
  have hYp : Y.pure = start p.pure := by
    rw [← hy]
    simp [StateH.pure, start, ProgH.pure, hLP, hLS, hL0, hL1, hL2, hL3, onceZ]
  exact retw [0] ⟨Y, true, by rw [← hy], tyes ok, fun _ => hYp, fun e => (by cases e), rfl⟩ ⟨.inl ⟨_, rfl, rfl⟩, trivial⟩ rfl ⟨rfl, trivial⟩ (fun _ => rfl)

end Go.Proofs.Ytpopeaoklccgcaa

namespace Go.Proofs.Ytpopeaoklccgcaa

open Go Go.Sx Go.RowKit

set_option maxRecDepth 100000 in
theorem l7Rest_c (p : ProgH) (t c : Int) (k : Nat) (hk : k < p.threads.length) (ht : t = (k : Int)) (w : World) (h : At w [fR (progO p)]) :
    Calls Try.prog 58 #[progV p, .int .i64 t, .int .i64 c] w (Ret w fun v L => v = .int .i64 (if c = ((p.threads[k]).m.length : Int) then 3 else 0) ∧ L = []) := by
  refine calls3 Try.func58 rfl tabOk w _ rfl _ rfl _ h ⟨rfl, rfl, trivial⟩ _ _ _ (by decide) ?_
  refine stop_idx encOpSH tabOk rfl rfl rfl rfl rfl ⟨rfl, rfl⟩ (rdVia 0 rfl (.trans (.R_R (progO_threads p)) (.ofR nest_h))) k (ht) (by first | omega | (simp; done) | (simp; omega) | (unfold maxLen; omega) | (unfold maxLen; simp; done) | (unfold maxLen; simp; omega)) (fun ad => ?_)
  refine CaseB.mk (fun g => ?_) (fun g => ?_)
  · have q : c = ((p.threads[k]).m.length : Int) := by simpa using g
    exact retw [] ⟨by rw [if_pos q], rfl⟩ trivial rfl trivial (fun _ => rfl)
  · have q : ¬ c = ((p.threads[k]).m.length : Int) := by simpa using g
    exact retw [] ⟨by rw [if_neg q], rfl⟩ trivial rfl trivial (fun _ => rfl)

set_option maxRecDepth 100000 in
theorem newSem_c (n : Int) (h0 : 1 ≤ n) (h1 : n ≤ 9) (w : World) : Calls Try.prog 59 #[.int .i64 n] w (Ret w fun v L => ∃ y : Sl, v = .tuple #[semV ⟨n, n, []⟩ y, .bool true] ∧ L = [own y 159 cWaiter 2 ([] : List Waiter)]) := by
  refine calls1 Try.func59 rfl tabOk w _ rfl _ rfl [] trivial trivial _ (by decide) ?_
  refine CaseB.mk (fun g => by simp at g; omega) (fun g => ?_)
  refine CaseB.mk (fun g => by simp at g; omega) (fun g => ?_)
  refine AllSl.mk fun y => ?_
  exact retw [0] ⟨y, rfl, rfl⟩ ⟨.inl ⟨_, rfl, rfl⟩, trivial⟩ rfl ⟨rfl, trivial⟩ (fun _ => rfl)

set_option maxRecDepth 100000 in
theorem newBarrier_c (n : Int) (h0 : 1 ≤ n) (h1 : n ≤ 6) (w : World) : Calls Try.prog 60 #[.int .i64 n] w (Ret w fun v L => ∃ y : Sl, v = .tuple #[barrierV ⟨n, 0, []⟩ y, .bool true] ∧ L = [own y 3 cInt 1 ([] : List Int)]) := by
  refine calls1 Try.func60 rfl tabOk w _ rfl _ rfl [] trivial trivial _ (by decide) ?_
  refine CaseB.mk (fun g => by simp at g; omega) (fun g => ?_)
  refine CaseB.mk (fun g => by simp at g; omega) (fun g => ?_)
  refine AllSl.mk fun y => ?_
  exact retw [0] ⟨y, rfl, rfl⟩ ⟨.inl ⟨_, rfl, rfl⟩, trivial⟩ rfl ⟨rfl, trivial⟩ (fun _ => rfl)

set_option maxRecDepth 100000 in
theorem newChan_c (n : Int) (h0 : 0 ≤ n) (h1 : n ≤ 4) (w : World) : Calls Try.prog 61 #[.int .i64 n] w (Ret w fun v L => ∃ y z u : Sl, v = .tuple #[chanV ⟨n, [], [], [], false⟩ y z u, .bool true] ∧ L = [own y 3 cInt 1 ([] : List Int), own z 161 cLet 2 ([] : List Letter), own u 3 cInt 1 ([] : List Int)]) := by
  refine calls1 Try.func61 rfl tabOk w _ rfl _ rfl [] trivial trivial _ (by decide) ?_
  refine CaseB.mk (fun g => by simp at g; omega) (fun g => ?_)
  refine CaseB.mk (fun g => by simp at g; omega) (fun g => ?_)
  refine AllSl.mk fun y => ?_
  refine AllSl.mk fun z => ?_
  refine AllSl.mk fun u => ?_
  exact retw [2, 1, 0] ⟨y, z, u, rfl, rfl⟩ ⟨.inl ⟨_, rfl, rfl⟩, .inl ⟨_, rfl, rfl⟩, .inl ⟨_, rfl, rfl⟩, trivial⟩ rfl ⟨rfl, rfl, rfl, trivial⟩ (fun _ => rfl)

set_option maxHeartbeats 16000000 in
set_option maxRecDepth 100000 in
theorem startProgS_c (p : ProgH) (w : World) (h : At w [fR (progO p)]) (hs : p.sems.length ≤ 1048576 ∧ p.groups.length ≤ 1048576 ∧ p.barriers.length ≤ 1048576 ∧ p.rooms.length ≤ 1048576) :
    Calls Try.prog 13 #[progV p] w (Ret w (Started p.pure)) := by
  refine calls1 Try.func13 rfl tabOk w _ rfl _ rfl _ h ⟨rfl, rfl, trivial⟩ _ (by decide) ?_
  refine stop_call _ cl57 rfl rfl rfl rfl ⟨rfl, rfl⟩ (fun A w hW => progValidS_c p w ⟨hW.get 0 rfl (.refl _), trivial⟩ hs) ?_
  rintro v L ⟨b, rfl, hb, rfl⟩
  refine CaseB.mk (fun g => ?_) (fun g => ?_)
  · have hn : ¬ ProgOk p.pure := fun e => by rw [hb.2 e] at g; cases g
    refine ret_shift (.joinO [90] (Gs := [_]) ⟨.inr ⟨Nat.le_of_ble_eq_true rfl, zero_nil⟩, trivial⟩ rfl (G := stateO StateH.zero) (.of_eq (by simp))) ?_
    exact retw [0] ⟨StateH.zero, false, rfl, tno hn, fun e => (by cases e), fun _ => rfl, rfl⟩ ⟨.inl ⟨_, rfl, rfl⟩, trivial⟩ rfl ⟨rfl, trivial⟩ (fun _ => rfl)
  have ok := hb.1 (by simpa using g)
  have n4 : p.threads.length ≤ 4 := by have := ok.n4; simpa [ProgH.pure] using this
  have m0 : p.sems.length ≤ 3 := ok.sems.1
  have m1 : p.groups.length ≤ 3 := ok.groups.1
  have m2 : p.barriers.length ≤ 3 := ok.barriers.1
  have m3 : p.rooms.length ≤ 3 := ok.rooms.1
  obtain ⟨LP, hLP⟩ : ∃ l, l = p.threads.map (fun _ => (0 : Int)) := ⟨_, rfl⟩
  obtain ⟨LS, hLS⟩ : ∃ l, l = p.threads.map (fun x => rest x.m) := ⟨_, rfl⟩
  have lP : LP.length = p.threads.length := by rw [hLP]; simp
  have lS : LS.length = p.threads.length := by rw [hLS]; simp
  refine LoopW.mk ⟨{ q : Nat × Sl × Sl // q.1 ≤ p.threads.length },
    fun q => .mk [(1, .p 0 0), (2, .p 1 0), (4, .p 2 0), (5, .v (.int .i64 (q.1.1 : Int)))] 3 0 [(0, 44, 5), (1, 38, 9), (2, 38, 9)]
      [((0, 0), .v (p.h0.val p.sems.length)), ((0, 1), .v (p.h1.val p.groups.length)), ((0, 2), .v (p.h2.val p.barriers.length)), ((0, 3), .v (p.h3.val p.rooms.length)), ((0, 4), .v (p.h4.val p.threads.length)), ((2, 0), .v (q.1.2.1.val (LP.take q.1.1).length)), ((2, 1), .v (q.1.2.2.val (LS.take q.1.1).length)), ((2, 2), .v (.slice none 0 0)), ((2, 3), .v (.slice none 0 0)), ((2, 4), .v (.slice none 0 0)), ((2, 5), .v (.slice none 0 0)), ((2, 6), .v (.slice none 0 0)), ((2, 7), .v (.slice none 0 0)), ((2, 8), .v (.int .i64 0))]
      [own q.1.2.1 3 cInt 1 (LP.take q.1.1), own q.1.2.2 3 cInt 1 (LS.take q.1.1), fR (progO p)],
    fun q => p.threads.length - q.1.1, ⟨(0, ⟨none, 0⟩, ⟨none, 0⟩), Nat.zero_le _⟩, ?_, ?_⟩
  · refine weak_mk [99, 98, 0] ?_ ?_ ?_ ?_ ?_ rfl rfl
    · repeat (first | exact trivial | refine ⟨⟨_, rfl, (by first | exact .of rfl | exact .lit rfl | exact .of (by first | (rfl)) | exact .lit (by first | (rfl))), (by first | exact trivial | exact Nat.le_of_ble_eq_true rfl)⟩, ?_⟩)
    · repeat (first | exact trivial | refine ⟨⟨(by first | exact .head _ | exact .tail _ (.head _) | exact .tail _ (.tail _ (.head _)) | exact .tail _ (.tail _ (.tail _ (.head _))) | exact .tail _ (.tail _ (.tail _ (.tail _ (.head _)))) | exact .tail _ (.tail _ (.tail _ (.tail _ (.tail _ (.head _))))) | exact .tail _ (.tail _ (.tail _ (.tail _ (.tail _ (.tail _ (.head _)))))) | exact .tail _ (.tail _ (.tail _ (.tail _ (.tail _ (.tail _ (.tail _ (.head _))))))) | exact .tail _ (.tail _ (.tail _ (.tail _ (.tail _ (.tail _ (.tail _ (.tail _ (.head _)))))))) | exact .tail _ (.tail _ (.tail _ (.tail _ (.tail _ (.tail _ (.tail _ (.tail _ (.tail _ (.head _)))))))))), Nat.le_of_ble_eq_true rfl⟩, ?_⟩)
    · repeat (first | exact trivial | refine ⟨⟨_, rfl, (by first | exact .of rfl | exact .lit rfl | exact .of (by first | (rfl)) | exact .lit (by first | (rfl))), (by first | exact trivial | exact Nat.le_of_ble_eq_true rfl)⟩, ?_⟩)
    · repeat (first | exact trivial | refine ⟨⟨_, rfl⟩, ?_⟩)
    · repeat (first | exact trivial | refine ⟨.inl ⟨_, rfl, (by first | rfl | (rfl))⟩, ?_⟩ | refine ⟨.inr ⟨Nat.le_of_ble_eq_true rfl, rfl, rfl, rfl, rfl⟩, ?_⟩)
  rintro ⟨⟨k, a, s⟩, hk⟩
  simp only at hk
  refine CaseB.mk (fun g => ?_) (fun g => ?_)
  · have hlt : k < p.threads.length := by simpa using g
    have eP : LP.take k ++ [0] = LP.take (k + 1) := by rw [hLP]; exact map_take_succ hlt rfl rfl
    have eS : ∀ x, x = rest (p.threads[k]).m → LS.take k ++ [x] = LS.take (k + 1) := fun x hx => by rw [hLS]; exact map_take_succ hlt rfl hx
    have hw := e_succ k _ hlt (by omega)
    refine AllSl.mk fun u => ?_
    refine stop_app encInt 1 tabOk (ys := [0]) rfl rfl rfl rfl rfl rfl rfl rfl rfl (by decide) ⟨rfl, rfl⟩ rfl (by first | exact rdAt 0 rfl | exact rdOwnAt 0 rfl | exact rdAt 1 rfl | exact rdOwnAt 1 rfl | exact rdAt 2 rfl | exact rdOwnAt 2 rfl | exact rdAt 3 rfl | exact rdOwnAt 3 rfl | exact rdAt 4 rfl | exact rdOwnAt 4 rfl | exact rdAt 5 rfl | exact rdOwnAt 5 rfl | exact rdAt 6 rfl | exact rdOwnAt 6 rfl | exact rdAt 7 rfl | exact rdOwnAt 7 rfl | exact rdAt 8 rfl | exact rdOwnAt 8 rfl | exact rdAt 9 rfl | exact rdOwnAt 9 rfl | exact rdAt 10 rfl | exact rdOwnAt 10 rfl | exact rdAt 11 rfl | exact rdOwnAt 11 rfl | exact rdAt 12 rfl | exact rdOwnAt 12 rfl | exact rdAt 13 rfl | exact rdOwnAt 13 rfl | exact rdAt 14 rfl | exact rdOwnAt 14 rfl | exact rdAt 15 rfl | exact rdOwnAt 15 rfl | exact rdAt 16 rfl | exact rdOwnAt 16 rfl | exact rdAt 17 rfl | exact rdOwnAt 17 rfl | exact rdAt 18 rfl | exact rdOwnAt 18 rfl | exact rdAt 19 rfl | exact rdOwnAt 19 rfl | exact rdAt 20 rfl | exact rdOwnAt 20 rfl | exact rdAt 21 rfl | exact rdOwnAt 21 rfl | exact rdAt 22 rfl | exact rdOwnAt 22 rfl | exact rdAt 23 rfl | exact rdOwnAt 23 rfl) (by first | omega | (simp; done) | (simp; omega) | (unfold maxLen; omega) | (unfold maxLen; simp; done) | (unfold maxLen; simp; omega)) (by first | omega | (simp; done) | (simp; omega) | (unfold maxLen; omega) | (unfold maxLen; simp; done) | (unfold maxLen; simp; omega)) (fun a2 => ?_)
    rw [eP]
    have hr : (if (0 : Int) = ((p.threads[k]).m.length : Int) then (3 : Int) else 0) = rest (p.threads[k]).m := by
      simp only [rest]
      by_cases h0 : (p.threads[k]).m.length = 0
      · simp [h0]
      · rw [if_neg h0, if_neg (by omega)]
    refine draw_start tabOk (by kernel_rfl) (by kernel_rfl) (by kernel_rfl) 200 [((0, 0), .v (p.h0.val p.sems.length)), ((0, 1), .v (p.h1.val p.groups.length)), ((0, 2), .v (p.h2.val p.barriers.length)), ((0, 3), .v (p.h3.val p.rooms.length)), ((0, 4), .v (p.h4.val p.threads.length))] [3] [_] ⟨⟨_, rfl, rfl, (by first | exact trivial | exact Nat.le_of_ble_eq_true rfl)⟩, ⟨_, rfl, rfl, (by first | exact trivial | exact Nat.le_of_ble_eq_true rfl)⟩, ⟨_, rfl, rfl, (by first | exact trivial | exact Nat.le_of_ble_eq_true rfl)⟩, ⟨_, rfl, rfl, (by first | exact trivial | exact Nat.le_of_ble_eq_true rfl)⟩, ⟨_, rfl, rfl, (by first | exact trivial | exact Nat.le_of_ble_eq_true rfl)⟩, trivial⟩ ⟨⟨_, rfl⟩, ⟨_, rfl⟩, ⟨_, rfl⟩, ⟨_, rfl⟩, ⟨_, rfl⟩, trivial⟩ ⟨rfl, trivial⟩ rfl ?_
    refine BothW.mk ?_ ?_
    all_goals
      refine d_call _ cl58 rfl rfl rfl rfl ⟨rfl, rfl⟩ (fun A w hW => l7Rest_c p _ 0 k hlt rfl w ⟨hW.get 3 rfl (.refl _), trivial⟩) ?_
      rintro v L ⟨rfl, rfl⟩
      rw [hr]
    rotate_left
    · refine BothW.mk ?_ ?_
      all_goals
        refine AllSl.mk fun u2 => ?_
        refine d_app (ti := tiOf tab) encInt 3 tabOk (ys := [rest (p.threads[k]).m]) rfl rfl rfl rfl rfl rfl rfl rfl rfl (by decide) ⟨rfl, rfl⟩ rfl (by first | exact rdAt 0 rfl | exact rdOwnAt 0 rfl | exact rdAt 1 rfl | exact rdOwnAt 1 rfl | exact rdAt 2 rfl | exact rdOwnAt 2 rfl | exact rdAt 3 rfl | exact rdOwnAt 3 rfl | exact rdAt 4 rfl | exact rdOwnAt 4 rfl | exact rdAt 5 rfl | exact rdOwnAt 5 rfl | exact rdAt 6 rfl | exact rdOwnAt 6 rfl | exact rdAt 7 rfl | exact rdOwnAt 7 rfl | exact rdAt 8 rfl | exact rdOwnAt 8 rfl | exact rdAt 9 rfl | exact rdOwnAt 9 rfl | exact rdAt 10 rfl | exact rdOwnAt 10 rfl | exact rdAt 11 rfl | exact rdOwnAt 11 rfl | exact rdAt 12 rfl | exact rdOwnAt 12 rfl | exact rdAt 13 rfl | exact rdOwnAt 13 rfl | exact rdAt 14 rfl | exact rdOwnAt 14 rfl | exact rdAt 15 rfl | exact rdOwnAt 15 rfl | exact rdAt 16 rfl | exact rdOwnAt 16 rfl | exact rdAt 17 rfl | exact rdOwnAt 17 rfl | exact rdAt 18 rfl | exact rdOwnAt 18 rfl | exact rdAt 19 rfl | exact rdOwnAt 19 rfl | exact rdAt 20 rfl | exact rdOwnAt 20 rfl | exact rdAt 21 rfl | exact rdOwnAt 21 rfl | exact rdAt 22 rfl | exact rdOwnAt 22 rfl | exact rdAt 23 rfl | exact rdOwnAt 23 rfl) (by first | omega | (simp; done) | (simp; omega) | (unfold maxLen; omega) | (unfold maxLen; simp; done) | (unfold maxLen; simp; omega)) (by first | omega | (simp; done) | (simp; omega) | (unfold maxLen; omega) | (unfold maxLen; simp; done) | (unfold maxLen; simp; omega)) (by simp [keepF]) (fun s2 => ?_)
        rw [eS _ rfl]
        refine ⟨⟨(k + 1, a2, s2), by omega⟩, ?_, by simp only; omega⟩
        refine weak_mk [2, 0, 4] ?_ ?_ ?_ ?_ ?_ rfl rfl
        · repeat (first | exact trivial | refine ⟨⟨_, rfl, (by first | exact .of rfl | exact .lit rfl | exact .of (by first | ((exact congrArg (fun z => SV.v (Value.int .i64 z)) hw))) | exact .lit (by first | ((exact congrArg (fun z => SV.v (Value.int .i64 z)) hw)))), (by first | exact trivial | exact Nat.le_of_ble_eq_true rfl)⟩, ?_⟩)
        · repeat (first | exact trivial | refine ⟨⟨(by first | exact .head _ | exact .tail _ (.head _) | exact .tail _ (.tail _ (.head _)) | exact .tail _ (.tail _ (.tail _ (.head _))) | exact .tail _ (.tail _ (.tail _ (.tail _ (.head _)))) | exact .tail _ (.tail _ (.tail _ (.tail _ (.tail _ (.head _))))) | exact .tail _ (.tail _ (.tail _ (.tail _ (.tail _ (.tail _ (.head _)))))) | exact .tail _ (.tail _ (.tail _ (.tail _ (.tail _ (.tail _ (.tail _ (.head _))))))) | exact .tail _ (.tail _ (.tail _ (.tail _ (.tail _ (.tail _ (.tail _ (.tail _ (.head _)))))))) | exact .tail _ (.tail _ (.tail _ (.tail _ (.tail _ (.tail _ (.tail _ (.tail _ (.tail _ (.head _)))))))))), Nat.le_of_ble_eq_true rfl⟩, ?_⟩)
        · repeat (first | exact trivial | refine ⟨⟨_, rfl, (by first | exact .of rfl | exact .lit rfl | exact .of (by first | ((exact congrArg (fun z => SV.v (Value.int .i64 z)) hw))) | exact .lit (by first | ((exact congrArg (fun z => SV.v (Value.int .i64 z)) hw)))), (by first | exact trivial | exact Nat.le_of_ble_eq_true rfl)⟩, ?_⟩)
        · repeat (first | exact trivial | refine ⟨⟨_, rfl⟩, ?_⟩)
        · repeat (first | exact trivial | refine ⟨.inl ⟨_, rfl, (by first | rfl | ((exact congrArg (fun z => SV.v (Value.int .i64 z)) hw)))⟩, ?_⟩ | refine ⟨.inr ⟨Nat.le_of_ble_eq_true rfl, rfl, rfl, rfl, rfl⟩, ?_⟩)
    refine AllSl.mk fun u2 => ?_
    refine d_app (ti := tiOf tab) encInt 3 tabOk (ys := [rest (p.threads[k]).m]) rfl rfl rfl rfl rfl rfl rfl rfl rfl (by decide) ⟨rfl, rfl⟩ rfl (by first | exact rdAt 0 rfl | exact rdOwnAt 0 rfl | exact rdAt 1 rfl | exact rdOwnAt 1 rfl | exact rdAt 2 rfl | exact rdOwnAt 2 rfl | exact rdAt 3 rfl | exact rdOwnAt 3 rfl | exact rdAt 4 rfl | exact rdOwnAt 4 rfl | exact rdAt 5 rfl | exact rdOwnAt 5 rfl | exact rdAt 6 rfl | exact rdOwnAt 6 rfl | exact rdAt 7 rfl | exact rdOwnAt 7 rfl | exact rdAt 8 rfl | exact rdOwnAt 8 rfl | exact rdAt 9 rfl | exact rdOwnAt 9 rfl | exact rdAt 10 rfl | exact rdOwnAt 10 rfl | exact rdAt 11 rfl | exact rdOwnAt 11 rfl | exact rdAt 12 rfl | exact rdOwnAt 12 rfl | exact rdAt 13 rfl | exact rdOwnAt 13 rfl | exact rdAt 14 rfl | exact rdOwnAt 14 rfl | exact rdAt 15 rfl | exact rdOwnAt 15 rfl | exact rdAt 16 rfl | exact rdOwnAt 16 rfl | exact rdAt 17 rfl | exact rdOwnAt 17 rfl | exact rdAt 18 rfl | exact rdOwnAt 18 rfl | exact rdAt 19 rfl | exact rdOwnAt 19 rfl | exact rdAt 20 rfl | exact rdOwnAt 20 rfl | exact rdAt 21 rfl | exact rdOwnAt 21 rfl | exact rdAt 22 rfl | exact rdOwnAt 22 rfl | exact rdAt 23 rfl | exact rdOwnAt 23 rfl) (by first | omega | (simp; done) | (simp; omega) | (unfold maxLen; omega) | (unfold maxLen; simp; done) | (unfold maxLen; simp; omega)) (by first | omega | (simp; done) | (simp; omega) | (unfold maxLen; omega) | (unfold maxLen; simp; done) | (unfold maxLen; simp; omega)) (by simp [keepF]) (fun s2 => ?_)
    rw [eS _ rfl]
    refine ⟨⟨(k + 1, a2, s2), by omega⟩, ?_, by simp only; omega⟩
    refine weak_mk [2, 0, 4] ?_ ?_ ?_ ?_ ?_ rfl rfl
    · repeat (first | exact trivial | refine ⟨⟨_, rfl, (by first | exact .of rfl | exact .lit rfl | exact .of (by first | ((exact congrArg (fun z => SV.v (Value.int .i64 z)) hw))) | exact .lit (by first | ((exact congrArg (fun z => SV.v (Value.int .i64 z)) hw)))), (by first | exact trivial | exact Nat.le_of_ble_eq_true rfl)⟩, ?_⟩)
    · repeat (first | exact trivial | refine ⟨⟨(by first | exact .head _ | exact .tail _ (.head _) | exact .tail _ (.tail _ (.head _)) | exact .tail _ (.tail _ (.tail _ (.head _))) | exact .tail _ (.tail _ (.tail _ (.tail _ (.head _)))) | exact .tail _ (.tail _ (.tail _ (.tail _ (.tail _ (.head _))))) | exact .tail _ (.tail _ (.tail _ (.tail _ (.tail _ (.tail _ (.head _)))))) | exact .tail _ (.tail _ (.tail _ (.tail _ (.tail _ (.tail _ (.tail _ (.head _))))))) | exact .tail _ (.tail _ (.tail _ (.tail _ (.tail _ (.tail _ (.tail _ (.tail _ (.head _)))))))) | exact .tail _ (.tail _ (.tail _ (.tail _ (.tail _ (.tail _ (.tail _ (.tail _ (.tail _ (.head _)))))))))), Nat.le_of_ble_eq_true rfl⟩, ?_⟩)
    · repeat (first | exact trivial | refine ⟨⟨_, rfl, (by first | exact .of rfl | exact .lit rfl | exact .of (by first | ((exact congrArg (fun z => SV.v (Value.int .i64 z)) hw))) | exact .lit (by first | ((exact congrArg (fun z => SV.v (Value.int .i64 z)) hw)))), (by first | exact trivial | exact Nat.le_of_ble_eq_true rfl)⟩, ?_⟩)
    · repeat (first | exact trivial | refine ⟨⟨_, rfl⟩, ?_⟩)
    · repeat (first | exact trivial | refine ⟨.inl ⟨_, rfl, (by first | rfl | ((exact congrArg (fun z => SV.v (Value.int .i64 z)) hw)))⟩, ?_⟩ | refine ⟨.inr ⟨Nat.le_of_ble_eq_true rfl, rfl, rfl, rfl, rfl⟩, ?_⟩)
  have hge : p.threads.length ≤ k := by simpa using g
  have eP : LP.take k = LP := List.take_of_length_le (by omega)
  have eS : LS.take k = LS := List.take_of_length_le (by omega)
  refine LoopW.mk ⟨{ q : Nat × Sl × List SemH // q.1 ≤ p.sems.length ∧ q.2.2.map (·.m) = (p.sems.map fun n => (⟨n, n, []⟩ : Sem)).take q.1 },
    fun q => .mk [(1, .p 0 0), (2, .p 1 0), (4, .p 2 0), (6, .v (.int .i64 (q.1.1 : Int)))] 3 0 [(0, 44, 5), (1, 38, 9), (2, 38, 9)]
      [((0, 0), .v (p.h0.val p.sems.length)), ((0, 1), .v (p.h1.val p.groups.length)), ((0, 2), .v (p.h2.val p.barriers.length)), ((0, 3), .v (p.h3.val p.rooms.length)), ((0, 4), .v (p.h4.val p.threads.length)), ((2, 0), .v (a.val LP.length)), ((2, 1), .v (s.val LS.length)), ((2, 2), .v (q.1.2.1.val q.1.2.2.length)), ((2, 3), .v (.slice none 0 0)), ((2, 4), .v (.slice none 0 0)), ((2, 5), .v (.slice none 0 0)), ((2, 6), .v (.slice none 0 0)), ((2, 7), .v (.slice none 0 0)), ((2, 8), .v (.int .i64 0))]
      [own q.1.2.1 85 cSemH 3 q.1.2.2, fO (q.1.2.2.flatMap semO), own a 3 cInt 1 LP, own s 3 cInt 1 LS, fR (progO p)],
    fun q => p.sems.length - q.1.1, ⟨(0, ⟨none, 0⟩, []), Nat.zero_le _, by simp⟩, ?_, ?_⟩
  · refine weak_shift (.joinO [] (Gs := []) trivial rfl (.refl _)) ?_
    refine weak_mk [99, 0, 1, 2, 3] ?_ ?_ ?_ ?_ ?_ rfl rfl
    · repeat (first | exact trivial | refine ⟨⟨_, rfl, (by first | exact .of rfl | exact .lit rfl | exact .of (by first | ((first | (rw [eP]; done) | (rw [eS]; done)))) | exact .lit (by first | ((first | (rw [eP]; done) | (rw [eS]; done))))), (by first | exact trivial | exact Nat.le_of_ble_eq_true rfl)⟩, ?_⟩)
    · repeat (first | exact trivial | refine ⟨⟨(by first | exact .head _ | exact .tail _ (.head _) | exact .tail _ (.tail _ (.head _)) | exact .tail _ (.tail _ (.tail _ (.head _))) | exact .tail _ (.tail _ (.tail _ (.tail _ (.head _)))) | exact .tail _ (.tail _ (.tail _ (.tail _ (.tail _ (.head _))))) | exact .tail _ (.tail _ (.tail _ (.tail _ (.tail _ (.tail _ (.head _)))))) | exact .tail _ (.tail _ (.tail _ (.tail _ (.tail _ (.tail _ (.tail _ (.head _))))))) | exact .tail _ (.tail _ (.tail _ (.tail _ (.tail _ (.tail _ (.tail _ (.tail _ (.head _)))))))) | exact .tail _ (.tail _ (.tail _ (.tail _ (.tail _ (.tail _ (.tail _ (.tail _ (.tail _ (.head _)))))))))), Nat.le_of_ble_eq_true rfl⟩, ?_⟩)
    · repeat (first | exact trivial | refine ⟨⟨_, rfl, (by first | exact .of rfl | exact .lit rfl | exact .of (by first | ((first | (rw [eP]; done) | (rw [eS]; done)))) | exact .lit (by first | ((first | (rw [eP]; done) | (rw [eS]; done))))), (by first | exact trivial | exact Nat.le_of_ble_eq_true rfl)⟩, ?_⟩)
    · repeat (first | exact trivial | refine ⟨⟨_, rfl⟩, ?_⟩)
    · repeat (first | exact trivial | refine ⟨.inl ⟨_, rfl, (by first | rfl | ((first | (rw [eP]; done) | (rw [eS]; done))))⟩, ?_⟩ | refine ⟨.inr ⟨Nat.le_of_ble_eq_true rfl, rfl, rfl, rfl, rfl⟩, ?_⟩)
  rintro ⟨⟨k0, c0, l0⟩, hk, hl0⟩
  simp only at hk hl0
  have ln0 : l0.length = k0 := by have := congrArg List.length hl0; simp at this; omega
  refine CaseB.mk (fun g => ?_) (fun g => ?_)
  · have hlt : k0 < p.sems.length := by simpa using g
    have hw := e_succ k0 _ hlt (by omega)
    have hv := ok.sems.2 _ (List.getElem_mem hlt)
    refine stop_idx encInt tabOk rfl rfl rfl rfl rfl ⟨rfl, rfl⟩ (rdVia 4 rfl (.ofR (progO_sems p))) k0 rfl (by first | omega | (simp; done) | (simp; omega) | (unfold maxLen; omega) | (unfold maxLen; simp; done) | (unfold maxLen; simp; omega)) (fun ad => ?_)
    refine stop_call _ cl59 rfl rfl rfl rfl ⟨rfl, rfl⟩ (fun A w hW => newSem_c _ hv.1 hv.2 w) ?_
    rintro v L ⟨y, rfl, rfl⟩
    refine AllSl.mk fun r => ?_
    generalize hx : (⟨⟨p.sems[k0], p.sems[k0], []⟩, y⟩ : SemH) = x
    have hxm : x.m = ⟨p.sems[k0], p.sems[k0], []⟩ := by rw [← hx]
    refine stop_app encSemH 2 tabOk (ys := [x]) rfl rfl rfl rfl rfl (by rw [← hx]; rfl) rfl rfl rfl (by decide) ⟨rfl, rfl⟩ rfl (by rw [← hx]; exact rdOwnAt 0 rfl) (by simp only [List.length_cons, List.length_nil]; omega) (by simp only [List.length_cons, List.length_nil]; unfold maxLen; omega) (fun c' => ?_)
    refine ⟨⟨(k0 + 1, c', l0 ++ [x]), by omega, by rw [List.map_append]; exact map_take_succ hlt hl0 hxm⟩, ?_, by simp only; omega⟩
    refine weak_shift (.joinO [2, 3] (Gs := [[_], _]) ⟨.inl ⟨_, rfl, .own⟩, .inl ⟨_, rfl, .o⟩, trivial⟩ rfl (G := (l0 ++ [x]).flatMap semO) (by subst hx; rw [List.flatMap_append]; exact (List.Perm.of_eq (by simp [semO])).trans List.perm_append_comm)) ?_
    refine weak_mk [1, 0, 3, 4, 5] ?_ ?_ ?_ ?_ ?_ rfl rfl
    · repeat (first | exact trivial | refine ⟨⟨_, rfl, (by first | exact .of rfl | exact .lit rfl | exact .of (by first | ((exact congrArg (fun z => SV.v (Value.int .i64 z)) hw))) | exact .lit (by first | ((exact congrArg (fun z => SV.v (Value.int .i64 z)) hw)))), (by first | exact trivial | exact Nat.le_of_ble_eq_true rfl)⟩, ?_⟩)
    · repeat (first | exact trivial | refine ⟨⟨(by first | exact .head _ | exact .tail _ (.head _) | exact .tail _ (.tail _ (.head _)) | exact .tail _ (.tail _ (.tail _ (.head _))) | exact .tail _ (.tail _ (.tail _ (.tail _ (.head _)))) | exact .tail _ (.tail _ (.tail _ (.tail _ (.tail _ (.head _))))) | exact .tail _ (.tail _ (.tail _ (.tail _ (.tail _ (.tail _ (.head _)))))) | exact .tail _ (.tail _ (.tail _ (.tail _ (.tail _ (.tail _ (.tail _ (.head _))))))) | exact .tail _ (.tail _ (.tail _ (.tail _ (.tail _ (.tail _ (.tail _ (.tail _ (.head _)))))))) | exact .tail _ (.tail _ (.tail _ (.tail _ (.tail _ (.tail _ (.tail _ (.tail _ (.tail _ (.head _)))))))))), Nat.le_of_ble_eq_true rfl⟩, ?_⟩)
    · repeat (first | exact trivial | refine ⟨⟨_, rfl, (by first | exact .of rfl | exact .lit rfl | exact .of (by first | ((exact congrArg (fun z => SV.v (Value.int .i64 z)) hw))) | exact .lit (by first | ((exact congrArg (fun z => SV.v (Value.int .i64 z)) hw)))), (by first | exact trivial | exact Nat.le_of_ble_eq_true rfl)⟩, ?_⟩)
    · repeat (first | exact trivial | refine ⟨⟨_, rfl⟩, ?_⟩)
    · repeat (first | exact trivial | refine ⟨.inl ⟨_, rfl, (by first | rfl | ((exact congrArg (fun z => SV.v (Value.int .i64 z)) hw)))⟩, ?_⟩ | refine ⟨.inr ⟨Nat.le_of_ble_eq_true rfl, rfl, rfl, rfl, rfl⟩, ?_⟩)
  have hge0 : p.sems.length ≤ k0 := by simpa using g
  have m0' : l0.map (·.m) = p.sems.map fun n => (⟨n, n, []⟩ : Sem) := by rw [hl0, List.take_of_length_le (by simpa using hge0)]
  refine LoopW.mk ⟨{ q : Nat × Sl // q.1 ≤ 3 },
    fun q => .mk [(1, .p 0 0), (2, .p 1 0), (4, .p 2 0), (9, .v (.int .i64 (q.1.1 : Int)))] 3 0 [(0, 44, 5), (1, 38, 9), (2, 38, 9)]
      [((0, 0), .v (p.h0.val p.sems.length)), ((0, 1), .v (p.h1.val p.groups.length)), ((0, 2), .v (p.h2.val p.barriers.length)), ((0, 3), .v (p.h3.val p.rooms.length)), ((0, 4), .v (p.h4.val p.threads.length)), ((2, 0), .v (a.val LP.length)), ((2, 1), .v (s.val LS.length)), ((2, 2), .v (c0.val l0.length)), ((2, 3), .v (q.1.2.val (List.replicate q.1.1 onceZ).length)), ((2, 4), .v (.slice none 0 0)), ((2, 5), .v (.slice none 0 0)), ((2, 6), .v (.slice none 0 0)), ((2, 7), .v (.slice none 0 0)), ((2, 8), .v (.int .i64 0))]
      [own q.1.2 89 cOnceH 4 (List.replicate q.1.1 onceZ), own c0 85 cSemH 3 l0, fO (l0.flatMap semO), own a 3 cInt 1 LP, own s 3 cInt 1 LS, fR (progO p)],
    fun q => 3 - q.1.1, ⟨(0, ⟨none, 0⟩), Nat.zero_le _⟩, ?_, ?_⟩
  · refine weak_mk [99, 0, 1, 2, 3, 4] ?_ ?_ ?_ ?_ ?_ rfl rfl
    · repeat (first | exact trivial | refine ⟨⟨_, rfl, (by first | exact .of rfl | exact .lit rfl | exact .of (by first | (rfl)) | exact .lit (by first | (rfl))), (by first | exact trivial | exact Nat.le_of_ble_eq_true rfl)⟩, ?_⟩)
    · repeat (first | exact trivial | refine ⟨⟨(by first | exact .head _ | exact .tail _ (.head _) | exact .tail _ (.tail _ (.head _)) | exact .tail _ (.tail _ (.tail _ (.head _))) | exact .tail _ (.tail _ (.tail _ (.tail _ (.head _)))) | exact .tail _ (.tail _ (.tail _ (.tail _ (.tail _ (.head _))))) | exact .tail _ (.tail _ (.tail _ (.tail _ (.tail _ (.tail _ (.head _)))))) | exact .tail _ (.tail _ (.tail _ (.tail _ (.tail _ (.tail _ (.tail _ (.head _))))))) | exact .tail _ (.tail _ (.tail _ (.tail _ (.tail _ (.tail _ (.tail _ (.tail _ (.head _)))))))) | exact .tail _ (.tail _ (.tail _ (.tail _ (.tail _ (.tail _ (.tail _ (.tail _ (.tail _ (.head _)))))))))), Nat.le_of_ble_eq_true rfl⟩, ?_⟩)
    · repeat (first | exact trivial | refine ⟨⟨_, rfl, (by first | exact .of rfl | exact .lit rfl | exact .of (by first | (rfl)) | exact .lit (by first | (rfl))), (by first | exact trivial | exact Nat.le_of_ble_eq_true rfl)⟩, ?_⟩)
    · repeat (first | exact trivial | refine ⟨⟨_, rfl⟩, ?_⟩)
    · repeat (first | exact trivial | refine ⟨.inl ⟨_, rfl, (by first | rfl | (rfl))⟩, ?_⟩ | refine ⟨.inr ⟨Nat.le_of_ble_eq_true rfl, rfl, rfl, rfl, rfl⟩, ?_⟩)
  rintro ⟨⟨k1, c1⟩, hk⟩
  simp only at hk
  refine CaseB.mk (fun g => ?_) (fun g => ?_)
  · have hlt : k1 < 3 := by have g' := of_decide_eq_true g; simp only at g'; omega
    have hw := e_succ k1 3 hlt (by omega)
    refine AllSl.mk fun u => ?_
    refine stop_app encOnceH 1 tabOk (ys := [onceZ]) rfl rfl rfl rfl rfl rfl rfl rfl rfl (by decide) ⟨rfl, rfl⟩ rfl (by first | exact rdAt 0 rfl | exact rdOwnAt 0 rfl | exact rdAt 1 rfl | exact rdOwnAt 1 rfl | exact rdAt 2 rfl | exact rdOwnAt 2 rfl | exact rdAt 3 rfl | exact rdOwnAt 3 rfl | exact rdAt 4 rfl | exact rdOwnAt 4 rfl | exact rdAt 5 rfl | exact rdOwnAt 5 rfl | exact rdAt 6 rfl | exact rdOwnAt 6 rfl | exact rdAt 7 rfl | exact rdOwnAt 7 rfl | exact rdAt 8 rfl | exact rdOwnAt 8 rfl | exact rdAt 9 rfl | exact rdOwnAt 9 rfl | exact rdAt 10 rfl | exact rdOwnAt 10 rfl | exact rdAt 11 rfl | exact rdOwnAt 11 rfl | exact rdAt 12 rfl | exact rdOwnAt 12 rfl | exact rdAt 13 rfl | exact rdOwnAt 13 rfl | exact rdAt 14 rfl | exact rdOwnAt 14 rfl | exact rdAt 15 rfl | exact rdOwnAt 15 rfl | exact rdAt 16 rfl | exact rdOwnAt 16 rfl | exact rdAt 17 rfl | exact rdOwnAt 17 rfl | exact rdAt 18 rfl | exact rdOwnAt 18 rfl | exact rdAt 19 rfl | exact rdOwnAt 19 rfl | exact rdAt 20 rfl | exact rdOwnAt 20 rfl | exact rdAt 21 rfl | exact rdOwnAt 21 rfl | exact rdAt 22 rfl | exact rdOwnAt 22 rfl | exact rdAt 23 rfl | exact rdOwnAt 23 rfl) (by first | omega | (simp; done) | (simp; omega) | (unfold maxLen; omega) | (unfold maxLen; simp; done) | (unfold maxLen; simp; omega)) (by first | omega | (simp; done) | (simp; omega) | (unfold maxLen; omega) | (unfold maxLen; simp; done) | (unfold maxLen; simp; omega)) (fun c' => ?_)
    rw [← List.replicate_succ']
    refine ⟨⟨(k1 + 1, c'), by omega⟩, ?_, by simp only; omega⟩
    refine weak_mk [0, 2, 3, 4, 5, 6] ?_ ?_ ?_ ?_ ?_ rfl rfl
    · repeat (first | exact trivial | refine ⟨⟨_, rfl, (by first | exact .of rfl | exact .lit rfl | exact .of (by first | ((exact congrArg (fun z => SV.v (Value.int .i64 z)) hw))) | exact .lit (by first | ((exact congrArg (fun z => SV.v (Value.int .i64 z)) hw)))), (by first | exact trivial | exact Nat.le_of_ble_eq_true rfl)⟩, ?_⟩)
    · repeat (first | exact trivial | refine ⟨⟨(by first | exact .head _ | exact .tail _ (.head _) | exact .tail _ (.tail _ (.head _)) | exact .tail _ (.tail _ (.tail _ (.head _))) | exact .tail _ (.tail _ (.tail _ (.tail _ (.head _)))) | exact .tail _ (.tail _ (.tail _ (.tail _ (.tail _ (.head _))))) | exact .tail _ (.tail _ (.tail _ (.tail _ (.tail _ (.tail _ (.head _)))))) | exact .tail _ (.tail _ (.tail _ (.tail _ (.tail _ (.tail _ (.tail _ (.head _))))))) | exact .tail _ (.tail _ (.tail _ (.tail _ (.tail _ (.tail _ (.tail _ (.tail _ (.head _)))))))) | exact .tail _ (.tail _ (.tail _ (.tail _ (.tail _ (.tail _ (.tail _ (.tail _ (.tail _ (.head _)))))))))), Nat.le_of_ble_eq_true rfl⟩, ?_⟩)
    · repeat (first | exact trivial | refine ⟨⟨_, rfl, (by first | exact .of rfl | exact .lit rfl | exact .of (by first | ((exact congrArg (fun z => SV.v (Value.int .i64 z)) hw))) | exact .lit (by first | ((exact congrArg (fun z => SV.v (Value.int .i64 z)) hw)))), (by first | exact trivial | exact Nat.le_of_ble_eq_true rfl)⟩, ?_⟩)
    · repeat (first | exact trivial | refine ⟨⟨_, rfl⟩, ?_⟩)
    · repeat (first | exact trivial | refine ⟨.inl ⟨_, rfl, (by first | rfl | ((exact congrArg (fun z => SV.v (Value.int .i64 z)) hw)))⟩, ?_⟩ | refine ⟨.inr ⟨Nat.le_of_ble_eq_true rfl, rfl, rfl, rfl, rfl⟩, ?_⟩)
  have hge1 : k1 = 3 := by have g' := of_decide_eq_false g; simp only at g'; omega
  have e1 : List.replicate k1 onceZ = [onceZ, onceZ, onceZ] := by rw [hge1]; rfl
  obtain ⟨L2, hL2⟩ : ∃ l, l = p.groups.map (fun n => (⟨⟨n, []⟩, ⟨none, 0⟩⟩ : GroupH)) := ⟨_, rfl⟩
  have lenL2 : L2.length = p.groups.length := by rw [hL2]; simp
  refine LoopW.mk ⟨{ q : Nat × Sl // q.1 ≤ p.groups.length },
    fun q => .mk [(1, .p 0 0), (2, .p 1 0), (4, .p 2 0), (10, .v (.int .i64 (q.1.1 : Int)))] 3 0 [(0, 44, 5), (1, 38, 9), (2, 38, 9)]
      [((0, 0), .v (p.h0.val p.sems.length)), ((0, 1), .v (p.h1.val p.groups.length)), ((0, 2), .v (p.h2.val p.barriers.length)), ((0, 3), .v (p.h3.val p.rooms.length)), ((0, 4), .v (p.h4.val p.threads.length)), ((2, 0), .v (a.val LP.length)), ((2, 1), .v (s.val LS.length)), ((2, 2), .v (c0.val l0.length)), ((2, 3), .v (c1.val [onceZ, onceZ, onceZ].length)), ((2, 4), .v (q.1.2.val (L2.take q.1.1).length)), ((2, 5), .v (.slice none 0 0)), ((2, 6), .v (.slice none 0 0)), ((2, 7), .v (.slice none 0 0)), ((2, 8), .v (.int .i64 0))]
      [own q.1.2 93 cGroupH 2 (L2.take q.1.1), own c1 89 cOnceH 4 [onceZ, onceZ, onceZ], own c0 85 cSemH 3 l0, fO (l0.flatMap semO), own a 3 cInt 1 LP, own s 3 cInt 1 LS, fR (progO p)],
    fun q => p.groups.length - q.1.1, ⟨(0, ⟨none, 0⟩), Nat.zero_le _⟩, ?_, ?_⟩
  · refine weak_mk [99, 0, 1, 2, 3, 4, 5] ?_ ?_ ?_ ?_ ?_ rfl rfl
    · repeat (first | exact trivial | refine ⟨⟨_, rfl, (by first | exact .of rfl | exact .lit rfl | exact .of (by first | ((first | (rw [e1]; done)))) | exact .lit (by first | ((first | (rw [e1]; done))))), (by first | exact trivial | exact Nat.le_of_ble_eq_true rfl)⟩, ?_⟩)
    · repeat (first | exact trivial | refine ⟨⟨(by first | exact .head _ | exact .tail _ (.head _) | exact .tail _ (.tail _ (.head _)) | exact .tail _ (.tail _ (.tail _ (.head _))) | exact .tail _ (.tail _ (.tail _ (.tail _ (.head _)))) | exact .tail _ (.tail _ (.tail _ (.tail _ (.tail _ (.head _))))) | exact .tail _ (.tail _ (.tail _ (.tail _ (.tail _ (.tail _ (.head _)))))) | exact .tail _ (.tail _ (.tail _ (.tail _ (.tail _ (.tail _ (.tail _ (.head _))))))) | exact .tail _ (.tail _ (.tail _ (.tail _ (.tail _ (.tail _ (.tail _ (.tail _ (.head _)))))))) | exact .tail _ (.tail _ (.tail _ (.tail _ (.tail _ (.tail _ (.tail _ (.tail _ (.tail _ (.head _)))))))))), Nat.le_of_ble_eq_true rfl⟩, ?_⟩)
    · repeat (first | exact trivial | refine ⟨⟨_, rfl, (by first | exact .of rfl | exact .lit rfl | exact .of (by first | ((first | (rw [e1]; done)))) | exact .lit (by first | ((first | (rw [e1]; done))))), (by first | exact trivial | exact Nat.le_of_ble_eq_true rfl)⟩, ?_⟩)
    · repeat (first | exact trivial | refine ⟨⟨_, rfl⟩, ?_⟩)
    · repeat (first | exact trivial | refine ⟨.inl ⟨_, rfl, (by first | rfl | ((first | (rw [e1]; done))))⟩, ?_⟩ | refine ⟨.inr ⟨Nat.le_of_ble_eq_true rfl, rfl, rfl, rfl, rfl⟩, ?_⟩)
  rintro ⟨⟨k2, c2⟩, hk⟩
  simp only at hk
  refine CaseB.mk (fun g => ?_) (fun g => ?_)
  · have hlt : k2 < p.groups.length := by simpa using g
    have e : ∀ x, x = (⟨⟨p.groups[k2], []⟩, ⟨none, 0⟩⟩ : GroupH) → L2.take k2 ++ [x] = L2.take (k2 + 1) := fun x hx => by rw [hL2]; exact map_take_succ hlt rfl hx
    have hw := e_succ k2 _ hlt (by omega)
    refine draw_start tabOk (by kernel_rfl) (by kernel_rfl) (by kernel_rfl) 200 [((0, 0), .v (p.h0.val p.sems.length)), ((0, 1), .v (p.h1.val p.groups.length)), ((0, 2), .v (p.h2.val p.barriers.length)), ((0, 3), .v (p.h3.val p.rooms.length)), ((0, 4), .v (p.h4.val p.threads.length))] [6] [_] ⟨⟨_, rfl, rfl, (by first | exact trivial | exact Nat.le_of_ble_eq_true rfl)⟩, ⟨_, rfl, rfl, (by first | exact trivial | exact Nat.le_of_ble_eq_true rfl)⟩, ⟨_, rfl, rfl, (by first | exact trivial | exact Nat.le_of_ble_eq_true rfl)⟩, ⟨_, rfl, rfl, (by first | exact trivial | exact Nat.le_of_ble_eq_true rfl)⟩, ⟨_, rfl, rfl, (by first | exact trivial | exact Nat.le_of_ble_eq_true rfl)⟩, trivial⟩ ⟨⟨_, rfl⟩, ⟨_, rfl⟩, ⟨_, rfl⟩, ⟨_, rfl⟩, ⟨_, rfl⟩, trivial⟩ ⟨rfl, trivial⟩ rfl ?_
    refine d_idx (ti := tiOf tab) encInt tabOk rfl rfl rfl rfl rfl ⟨rfl, rfl⟩ (rdVia 0 rfl (.ofR (progO_groups p))) k2 rfl (by first | omega | (simp; done) | (simp; omega) | (unfold maxLen; omega) | (unfold maxLen; simp; done) | (unfold maxLen; simp; omega)) (fun ad => ?_)
    refine BothW.mk ?_ ?_
    all_goals
      refine AllSl.mk fun u => ?_
      refine d_app (ti := tiOf tab) encGroupH 1 tabOk (ys := [⟨⟨p.groups[k2], []⟩, ⟨none, 0⟩⟩]) rfl rfl rfl rfl rfl rfl rfl rfl rfl (by decide) ⟨rfl, rfl⟩ rfl (by first | exact rdAt 0 rfl | exact rdOwnAt 0 rfl | exact rdAt 1 rfl | exact rdOwnAt 1 rfl | exact rdAt 2 rfl | exact rdOwnAt 2 rfl | exact rdAt 3 rfl | exact rdOwnAt 3 rfl | exact rdAt 4 rfl | exact rdOwnAt 4 rfl | exact rdAt 5 rfl | exact rdOwnAt 5 rfl | exact rdAt 6 rfl | exact rdOwnAt 6 rfl | exact rdAt 7 rfl | exact rdOwnAt 7 rfl | exact rdAt 8 rfl | exact rdOwnAt 8 rfl | exact rdAt 9 rfl | exact rdOwnAt 9 rfl | exact rdAt 10 rfl | exact rdOwnAt 10 rfl | exact rdAt 11 rfl | exact rdOwnAt 11 rfl | exact rdAt 12 rfl | exact rdOwnAt 12 rfl | exact rdAt 13 rfl | exact rdOwnAt 13 rfl | exact rdAt 14 rfl | exact rdOwnAt 14 rfl | exact rdAt 15 rfl | exact rdOwnAt 15 rfl | exact rdAt 16 rfl | exact rdOwnAt 16 rfl | exact rdAt 17 rfl | exact rdOwnAt 17 rfl | exact rdAt 18 rfl | exact rdOwnAt 18 rfl | exact rdAt 19 rfl | exact rdOwnAt 19 rfl | exact rdAt 20 rfl | exact rdOwnAt 20 rfl | exact rdAt 21 rfl | exact rdOwnAt 21 rfl | exact rdAt 22 rfl | exact rdOwnAt 22 rfl | exact rdAt 23 rfl | exact rdOwnAt 23 rfl) (by first | omega | (simp; done) | (simp; omega) | (unfold maxLen; omega) | (unfold maxLen; simp; done) | (unfold maxLen; simp; omega)) (by first | omega | (simp; done) | (simp; omega) | (unfold maxLen; omega) | (unfold maxLen; simp; done) | (unfold maxLen; simp; omega)) (by simp [keepF]) (fun c' => ?_)
      rw [e _ rfl]
      refine ⟨⟨(k2 + 1, c'), by omega⟩, ?_, by simp only; omega⟩
      refine weak_mk [0, 2, 3, 4, 5, 6, 7] ?_ ?_ ?_ ?_ ?_ rfl rfl
      · repeat (first | exact trivial | refine ⟨⟨_, rfl, (by first | exact .of rfl | exact .lit rfl | exact .of (by first | ((exact congrArg (fun z => SV.v (Value.int .i64 z)) hw))) | exact .lit (by first | ((exact congrArg (fun z => SV.v (Value.int .i64 z)) hw)))), (by first | exact trivial | exact Nat.le_of_ble_eq_true rfl)⟩, ?_⟩)
      · repeat (first | exact trivial | refine ⟨⟨(by first | exact .head _ | exact .tail _ (.head _) | exact .tail _ (.tail _ (.head _)) | exact .tail _ (.tail _ (.tail _ (.head _))) | exact .tail _ (.tail _ (.tail _ (.tail _ (.head _)))) | exact .tail _ (.tail _ (.tail _ (.tail _ (.tail _ (.head _))))) | exact .tail _ (.tail _ (.tail _ (.tail _ (.tail _ (.tail _ (.head _)))))) | exact .tail _ (.tail _ (.tail _ (.tail _ (.tail _ (.tail _ (.tail _ (.head _))))))) | exact .tail _ (.tail _ (.tail _ (.tail _ (.tail _ (.tail _ (.tail _ (.tail _ (.head _)))))))) | exact .tail _ (.tail _ (.tail _ (.tail _ (.tail _ (.tail _ (.tail _ (.tail _ (.tail _ (.head _)))))))))), Nat.le_of_ble_eq_true rfl⟩, ?_⟩)
      · repeat (first | exact trivial | refine ⟨⟨_, rfl, (by first | exact .of rfl | exact .lit rfl | exact .of (by first | ((exact congrArg (fun z => SV.v (Value.int .i64 z)) hw))) | exact .lit (by first | ((exact congrArg (fun z => SV.v (Value.int .i64 z)) hw)))), (by first | exact trivial | exact Nat.le_of_ble_eq_true rfl)⟩, ?_⟩)
      · repeat (first | exact trivial | refine ⟨⟨_, rfl⟩, ?_⟩)
      · repeat (first | exact trivial | refine ⟨.inl ⟨_, rfl, (by first | rfl | ((exact congrArg (fun z => SV.v (Value.int .i64 z)) hw)))⟩, ?_⟩ | refine ⟨.inr ⟨Nat.le_of_ble_eq_true rfl, rfl, rfl, rfl, rfl⟩, ?_⟩)
  have hge2 : p.groups.length ≤ k2 := by simpa using g
  have e2 : L2.take k2 = L2 := List.take_of_length_le (by omega)
  refine LoopW.mk ⟨{ q : Nat × Sl × List BarrierH // q.1 ≤ p.barriers.length ∧ q.2.2.map (·.m) = (p.barriers.map fun n => (⟨n, 0, []⟩ : Barrier)).take q.1 },
    fun q => .mk [(1, .p 0 0), (2, .p 1 0), (4, .p 2 0), (11, .v (.int .i64 (q.1.1 : Int)))] 3 0 [(0, 44, 5), (1, 38, 9), (2, 38, 9)]
      [((0, 0), .v (p.h0.val p.sems.length)), ((0, 1), .v (p.h1.val p.groups.length)), ((0, 2), .v (p.h2.val p.barriers.length)), ((0, 3), .v (p.h3.val p.rooms.length)), ((0, 4), .v (p.h4.val p.threads.length)), ((2, 0), .v (a.val LP.length)), ((2, 1), .v (s.val LS.length)), ((2, 2), .v (c0.val l0.length)), ((2, 3), .v (c1.val [onceZ, onceZ, onceZ].length)), ((2, 4), .v (c2.val L2.length)), ((2, 5), .v (q.1.2.1.val q.1.2.2.length)), ((2, 6), .v (.slice none 0 0)), ((2, 7), .v (.slice none 0 0)), ((2, 8), .v (.int .i64 0))]
      [own q.1.2.1 70 cBarrierH 3 q.1.2.2, fO (q.1.2.2.flatMap barrierO), own c2 93 cGroupH 2 L2, own c1 89 cOnceH 4 [onceZ, onceZ, onceZ], own c0 85 cSemH 3 l0, fO (l0.flatMap semO), own a 3 cInt 1 LP, own s 3 cInt 1 LS, fR (progO p)],
    fun q => p.barriers.length - q.1.1, ⟨(0, ⟨none, 0⟩, []), Nat.zero_le _, by simp⟩, ?_, ?_⟩
  · refine weak_shift (.joinO [] (Gs := []) trivial rfl (.refl _)) ?_
    refine weak_mk [99, 0, 1, 2, 3, 4, 5, 6, 7] ?_ ?_ ?_ ?_ ?_ rfl rfl
    · repeat (first | exact trivial | refine ⟨⟨_, rfl, (by first | exact .of rfl | exact .lit rfl | exact .of (by first | ((first | (rw [e2]; done)))) | exact .lit (by first | ((first | (rw [e2]; done))))), (by first | exact trivial | exact Nat.le_of_ble_eq_true rfl)⟩, ?_⟩)
    · repeat (first | exact trivial | refine ⟨⟨(by first | exact .head _ | exact .tail _ (.head _) | exact .tail _ (.tail _ (.head _)) | exact .tail _ (.tail _ (.tail _ (.head _))) | exact .tail _ (.tail _ (.tail _ (.tail _ (.head _)))) | exact .tail _ (.tail _ (.tail _ (.tail _ (.tail _ (.head _))))) | exact .tail _ (.tail _ (.tail _ (.tail _ (.tail _ (.tail _ (.head _)))))) | exact .tail _ (.tail _ (.tail _ (.tail _ (.tail _ (.tail _ (.tail _ (.head _))))))) | exact .tail _ (.tail _ (.tail _ (.tail _ (.tail _ (.tail _ (.tail _ (.tail _ (.head _)))))))) | exact .tail _ (.tail _ (.tail _ (.tail _ (.tail _ (.tail _ (.tail _ (.tail _ (.tail _ (.head _)))))))))), Nat.le_of_ble_eq_true rfl⟩, ?_⟩)
    · repeat (first | exact trivial | refine ⟨⟨_, rfl, (by first | exact .of rfl | exact .lit rfl | exact .of (by first | ((first | (rw [e2]; done)))) | exact .lit (by first | ((first | (rw [e2]; done))))), (by first | exact trivial | exact Nat.le_of_ble_eq_true rfl)⟩, ?_⟩)
    · repeat (first | exact trivial | refine ⟨⟨_, rfl⟩, ?_⟩)
    · repeat (first | exact trivial | refine ⟨.inl ⟨_, rfl, (by first | rfl | ((first | (rw [e2]; done))))⟩, ?_⟩ | refine ⟨.inr ⟨Nat.le_of_ble_eq_true rfl, rfl, rfl, rfl, rfl⟩, ?_⟩)
  rintro ⟨⟨k3, c3, l3⟩, hk, hl3⟩
  simp only at hk hl3
  have ln3 : l3.length = k3 := by have := congrArg List.length hl3; simp at this; omega
  refine CaseB.mk (fun g => ?_) (fun g => ?_)
  · have hlt : k3 < p.barriers.length := by simpa using g
    have hw := e_succ k3 _ hlt (by omega)
    have hv := ok.barriers.2 _ (List.getElem_mem hlt)
    refine stop_idx encInt tabOk rfl rfl rfl rfl rfl ⟨rfl, rfl⟩ (rdVia 8 rfl (.ofR (progO_barriers p))) k3 rfl (by first | omega | (simp; done) | (simp; omega) | (unfold maxLen; omega) | (unfold maxLen; simp; done) | (unfold maxLen; simp; omega)) (fun ad => ?_)
    refine stop_call _ cl60 rfl rfl rfl rfl ⟨rfl, rfl⟩ (fun A w hW => newBarrier_c _ hv.1 hv.2 w) ?_
    rintro v L ⟨y, rfl, rfl⟩
    refine AllSl.mk fun r => ?_
    generalize hx : (⟨⟨p.barriers[k3], 0, []⟩, y⟩ : BarrierH) = x
    have hxm : x.m = ⟨p.barriers[k3], 0, []⟩ := by rw [← hx]
    refine stop_app encBarrierH 2 tabOk (ys := [x]) rfl rfl rfl rfl rfl (by rw [← hx]; rfl) rfl rfl rfl (by decide) ⟨rfl, rfl⟩ rfl (by rw [← hx]; exact rdOwnAt 0 rfl) (by simp only [List.length_cons, List.length_nil]; omega) (by simp only [List.length_cons, List.length_nil]; unfold maxLen; omega) (fun c' => ?_)
    refine ⟨⟨(k3 + 1, c', l3 ++ [x]), by omega, by rw [List.map_append]; exact map_take_succ hlt hl3 hxm⟩, ?_, by simp only; omega⟩
    refine weak_shift (.joinO [2, 3] (Gs := [[_], _]) ⟨.inl ⟨_, rfl, .own⟩, .inl ⟨_, rfl, .o⟩, trivial⟩ rfl (G := (l3 ++ [x]).flatMap barrierO) (by subst hx; rw [List.flatMap_append]; exact (List.Perm.of_eq (by simp [barrierO])).trans List.perm_append_comm)) ?_
    refine weak_mk [1, 0, 3, 4, 5, 6, 7, 8, 9] ?_ ?_ ?_ ?_ ?_ rfl rfl
    · repeat (first | exact trivial | refine ⟨⟨_, rfl, (by first | exact .of rfl | exact .lit rfl | exact .of (by first | ((exact congrArg (fun z => SV.v (Value.int .i64 z)) hw))) | exact .lit (by first | ((exact congrArg (fun z => SV.v (Value.int .i64 z)) hw)))), (by first | exact trivial | exact Nat.le_of_ble_eq_true rfl)⟩, ?_⟩)
    · repeat (first | exact trivial | refine ⟨⟨(by first | exact .head _ | exact .tail _ (.head _) | exact .tail _ (.tail _ (.head _)) | exact .tail _ (.tail _ (.tail _ (.head _))) | exact .tail _ (.tail _ (.tail _ (.tail _ (.head _)))) | exact .tail _ (.tail _ (.tail _ (.tail _ (.tail _ (.head _))))) | exact .tail _ (.tail _ (.tail _ (.tail _ (.tail _ (.tail _ (.head _)))))) | exact .tail _ (.tail _ (.tail _ (.tail _ (.tail _ (.tail _ (.tail _ (.head _))))))) | exact .tail _ (.tail _ (.tail _ (.tail _ (.tail _ (.tail _ (.tail _ (.tail _ (.head _)))))))) | exact .tail _ (.tail _ (.tail _ (.tail _ (.tail _ (.tail _ (.tail _ (.tail _ (.tail _ (.head _)))))))))), Nat.le_of_ble_eq_true rfl⟩, ?_⟩)
    · repeat (first | exact trivial | refine ⟨⟨_, rfl, (by first | exact .of rfl | exact .lit rfl | exact .of (by first | ((exact congrArg (fun z => SV.v (Value.int .i64 z)) hw))) | exact .lit (by first | ((exact congrArg (fun z => SV.v (Value.int .i64 z)) hw)))), (by first | exact trivial | exact Nat.le_of_ble_eq_true rfl)⟩, ?_⟩)
    · repeat (first | exact trivial | refine ⟨⟨_, rfl⟩, ?_⟩)
    · repeat (first | exact trivial | refine ⟨.inl ⟨_, rfl, (by first | rfl | ((exact congrArg (fun z => SV.v (Value.int .i64 z)) hw)))⟩, ?_⟩ | refine ⟨.inr ⟨Nat.le_of_ble_eq_true rfl, rfl, rfl, rfl, rfl⟩, ?_⟩)
  have hge3 : p.barriers.length ≤ k3 := by simpa using g
  have m3' : l3.map (·.m) = p.barriers.map fun n => (⟨n, 0, []⟩ : Barrier) := by rw [hl3, List.take_of_length_le (by simpa using hge3)]
  refine LoopW.mk ⟨{ q : Nat × Sl × List ChanH // q.1 ≤ p.rooms.length ∧ q.2.2.map (·.m) = (p.rooms.map fun n => (⟨n, [], [], [], false⟩ : Chan)).take q.1 },
    fun q => .mk [(1, .p 0 0), (2, .p 1 0), (4, .p 2 0), (14, .v (.int .i64 (q.1.1 : Int)))] 3 0 [(0, 44, 5), (1, 38, 9), (2, 38, 9)]
      [((0, 0), .v (p.h0.val p.sems.length)), ((0, 1), .v (p.h1.val p.groups.length)), ((0, 2), .v (p.h2.val p.barriers.length)), ((0, 3), .v (p.h3.val p.rooms.length)), ((0, 4), .v (p.h4.val p.threads.length)), ((2, 0), .v (a.val LP.length)), ((2, 1), .v (s.val LS.length)), ((2, 2), .v (c0.val l0.length)), ((2, 3), .v (c1.val [onceZ, onceZ, onceZ].length)), ((2, 4), .v (c2.val L2.length)), ((2, 5), .v (c3.val l3.length)), ((2, 6), .v (q.1.2.1.val q.1.2.2.length)), ((2, 7), .v (.slice none 0 0)), ((2, 8), .v (.int .i64 0))]
      [own q.1.2.1 74 cChanH 5 q.1.2.2, fO (q.1.2.2.flatMap chanO), own c3 70 cBarrierH 3 l3, fO (l3.flatMap barrierO), own c2 93 cGroupH 2 L2, own c1 89 cOnceH 4 [onceZ, onceZ, onceZ], own c0 85 cSemH 3 l0, fO (l0.flatMap semO), own a 3 cInt 1 LP, own s 3 cInt 1 LS, fR (progO p)],
    fun q => p.rooms.length - q.1.1, ⟨(0, ⟨none, 0⟩, []), Nat.zero_le _, by simp⟩, ?_, ?_⟩
  · refine weak_shift (.joinO [] (Gs := []) trivial rfl (.refl _)) ?_
    refine weak_mk [99, 0, 1, 2, 3, 4, 5, 6, 7, 8, 9] ?_ ?_ ?_ ?_ ?_ rfl rfl
    · repeat (first | exact trivial | refine ⟨⟨_, rfl, (by first | exact .of rfl | exact .lit rfl | exact .of (by first | (rfl)) | exact .lit (by first | (rfl))), (by first | exact trivial | exact Nat.le_of_ble_eq_true rfl)⟩, ?_⟩)
    · repeat (first | exact trivial | refine ⟨⟨(by first | exact .head _ | exact .tail _ (.head _) | exact .tail _ (.tail _ (.head _)) | exact .tail _ (.tail _ (.tail _ (.head _))) | exact .tail _ (.tail _ (.tail _ (.tail _ (.head _)))) | exact .tail _ (.tail _ (.tail _ (.tail _ (.tail _ (.head _))))) | exact .tail _ (.tail _ (.tail _ (.tail _ (.tail _ (.tail _ (.head _)))))) | exact .tail _ (.tail _ (.tail _ (.tail _ (.tail _ (.tail _ (.tail _ (.head _))))))) | exact .tail _ (.tail _ (.tail _ (.tail _ (.tail _ (.tail _ (.tail _ (.tail _ (.head _)))))))) | exact .tail _ (.tail _ (.tail _ (.tail _ (.tail _ (.tail _ (.tail _ (.tail _ (.tail _ (.head _)))))))))), Nat.le_of_ble_eq_true rfl⟩, ?_⟩)
    · repeat (first | exact trivial | refine ⟨⟨_, rfl, (by first | exact .of rfl | exact .lit rfl | exact .of (by first | (rfl)) | exact .lit (by first | (rfl))), (by first | exact trivial | exact Nat.le_of_ble_eq_true rfl)⟩, ?_⟩)
    · repeat (first | exact trivial | refine ⟨⟨_, rfl⟩, ?_⟩)
    · repeat (first | exact trivial | refine ⟨.inl ⟨_, rfl, (by first | rfl | (rfl))⟩, ?_⟩ | refine ⟨.inr ⟨Nat.le_of_ble_eq_true rfl, rfl, rfl, rfl, rfl⟩, ?_⟩)
  rintro ⟨⟨k4, c4, l4⟩, hk, hl4⟩
  simp only at hk hl4
  have ln4 : l4.length = k4 := by have := congrArg List.length hl4; simp at this; omega
  refine CaseB.mk (fun g => ?_) (fun g => ?_)
  · have hlt : k4 < p.rooms.length := by simpa using g
    have hw := e_succ k4 _ hlt (by omega)
    have hv := ok.rooms.2 _ (List.getElem_mem hlt)
    refine stop_idx encInt tabOk rfl rfl rfl rfl rfl ⟨rfl, rfl⟩ (rdVia 10 rfl (.ofR (progO_rooms p))) k4 rfl (by first | omega | (simp; done) | (simp; omega) | (unfold maxLen; omega) | (unfold maxLen; simp; done) | (unfold maxLen; simp; omega)) (fun ad => ?_)
    refine stop_call _ cl61 rfl rfl rfl rfl ⟨rfl, rfl⟩ (fun A w hW => newChan_c _ hv.1 hv.2 w) ?_
    rintro v L ⟨y, z, u, rfl, rfl⟩
    refine AllSl.mk fun r => ?_
    generalize hx : (⟨⟨p.rooms[k4], [], [], [], false⟩, y, z, u⟩ : ChanH) = x
    have hxm : x.m = ⟨p.rooms[k4], [], [], [], false⟩ := by rw [← hx]
    refine stop_app encChanH 4 tabOk (ys := [x]) rfl rfl rfl rfl rfl (by rw [← hx]; rfl) rfl rfl rfl (by decide) ⟨rfl, rfl⟩ rfl (by rw [← hx]; exact rdOwnAt 0 rfl) (by simp only [List.length_cons, List.length_nil]; omega) (by simp only [List.length_cons, List.length_nil]; unfold maxLen; omega) (fun c' => ?_)
    refine ⟨⟨(k4 + 1, c', l4 ++ [x]), by omega, by rw [List.map_append]; exact map_take_succ hlt hl4 hxm⟩, ?_, by simp only; omega⟩
    refine weak_shift (.joinO [2, 3, 4, 5] (Gs := [[_], [_], [_], _]) ⟨.inl ⟨_, rfl, .own⟩, .inl ⟨_, rfl, .own⟩, .inl ⟨_, rfl, .own⟩, .inl ⟨_, rfl, .o⟩, trivial⟩ rfl (G := (l4 ++ [x]).flatMap chanO) (by subst hx; rw [List.flatMap_append]; exact (List.Perm.of_eq (by simp [chanO])).trans List.perm_append_comm)) ?_
    refine weak_mk [1, 0, 3, 4, 5, 6, 7, 8, 9, 10, 11] ?_ ?_ ?_ ?_ ?_ rfl rfl
    · repeat (first | exact trivial | refine ⟨⟨_, rfl, (by first | exact .of rfl | exact .lit rfl | exact .of (by first | ((exact congrArg (fun z => SV.v (Value.int .i64 z)) hw))) | exact .lit (by first | ((exact congrArg (fun z => SV.v (Value.int .i64 z)) hw)))), (by first | exact trivial | exact Nat.le_of_ble_eq_true rfl)⟩, ?_⟩)
    · repeat (first | exact trivial | refine ⟨⟨(by first | exact .head _ | exact .tail _ (.head _) | exact .tail _ (.tail _ (.head _)) | exact .tail _ (.tail _ (.tail _ (.head _))) | exact .tail _ (.tail _ (.tail _ (.tail _ (.head _)))) | exact .tail _ (.tail _ (.tail _ (.tail _ (.tail _ (.head _))))) | exact .tail _ (.tail _ (.tail _ (.tail _ (.tail _ (.tail _ (.head _)))))) | exact .tail _ (.tail _ (.tail _ (.tail _ (.tail _ (.tail _ (.tail _ (.head _))))))) | exact .tail _ (.tail _ (.tail _ (.tail _ (.tail _ (.tail _ (.tail _ (.tail _ (.head _)))))))) | exact .tail _ (.tail _ (.tail _ (.tail _ (.tail _ (.tail _ (.tail _ (.tail _ (.tail _ (.head _)))))))))), Nat.le_of_ble_eq_true rfl⟩, ?_⟩)
    · repeat (first | exact trivial | refine ⟨⟨_, rfl, (by first | exact .of rfl | exact .lit rfl | exact .of (by first | ((exact congrArg (fun z => SV.v (Value.int .i64 z)) hw))) | exact .lit (by first | ((exact congrArg (fun z => SV.v (Value.int .i64 z)) hw)))), (by first | exact trivial | exact Nat.le_of_ble_eq_true rfl)⟩, ?_⟩)
    · repeat (first | exact trivial | refine ⟨⟨_, rfl⟩, ?_⟩)
    · repeat (first | exact trivial | refine ⟨.inl ⟨_, rfl, (by first | rfl | ((exact congrArg (fun z => SV.v (Value.int .i64 z)) hw)))⟩, ?_⟩ | refine ⟨.inr ⟨Nat.le_of_ble_eq_true rfl, rfl, rfl, rfl, rfl⟩, ?_⟩)
  have hge4 : p.rooms.length ≤ k4 := by simpa using g
  have m4' : l4.map (·.m) = p.rooms.map fun n => (⟨n, [], [], [], false⟩ : Chan) := by rw [hl4, List.take_of_length_le (by simpa using hge4)]
  generalize hy : (⟨LP, LS, l0, [onceZ, onceZ, onceZ], L2, l3, l4, [], 0, a, s, c0, c1, c2, c3, c4, ⟨none, 0⟩⟩ : StateH) = Y
  have nil1 : ∀ g ∈ L2.flatMap groupO, nilFact g := nilOf fun x hx g hg => by
    rw [hL2] at hx; obtain ⟨n, _, rfl⟩ := List.mem_map.1 hx; simp [groupO] at hg; subst hg; exact ⟨rfl, rfl, rfl, rfl⟩
  have nil4 : ∀ g ∈ [onceZ, onceZ, onceZ].flatMap onceO, nilFact g := nilOf fun x hx g hg => by
    simp at hx; subst hx; simp [onceO, onceZ] at hg; subst hg; exact ⟨rfl, rfl, rfl, rfl⟩
  have nil5 : ∀ g ∈ [own ⟨none, 0⟩ 3 cInt 1 ([] : List Int)], nilFact g := fun g hg => by
    simp at hg; subst hg; exact ⟨rfl, rfl, rfl, rfl⟩
  refine ret_shift (.joinO [8, 9, 6, 7, 5, 90, 4, 91, 2, 3, 0, 1, 92] (Gs := [[_], [_], [_], _, [_], _, [_], _, [_], _, [_], _, _])
    ⟨.inl ⟨_, rfl, .own⟩, .inl ⟨_, rfl, .own⟩, .inl ⟨_, rfl, .own⟩, .inl ⟨_, rfl, .o⟩, .inl ⟨_, rfl, .own⟩, .inr ⟨Nat.le_of_ble_eq_true rfl, nil4⟩, .inl ⟨_, rfl, .own⟩, .inr ⟨Nat.le_of_ble_eq_true rfl, nil1⟩, .inl ⟨_, rfl, .own⟩, .inl ⟨_, rfl, .o⟩, .inl ⟨_, rfl, .own⟩, .inl ⟨_, rfl, .o⟩, .inr ⟨Nat.le_of_ble_eq_true rfl, nil5⟩, trivial⟩ rfl (G := stateO Y) (.of_eq (by rw [← hy]; simp [stateO, semsO, oncesO, groupsO, barriersO, chansO, nestO]))) ?_
  have hYp : Y.pure = start p.pure := by
    rw [← hy]
    simp only [StateH.pure, start, ProgH.pure, hLP, hLS, hL2, m0', m3', m4']
    simp [onceZ]
  exact retw [0] ⟨Y, true, by rw [← hy], tyes ok, fun _ => hYp, fun e => (by cases e), rfl⟩ ⟨.inl ⟨_, rfl, rfl⟩, trivial⟩ rfl ⟨rfl, trivial⟩ (fun _ => rfl)

end Go.Proofs.Ytpopeaoklccgcaa

namespace Go.Proofs.Ytpopeaoklccgcaa

open Go Go.Sx Go.RowKit

theorem mkState_V (k : Nat) (s : StateH) : stateV (mkState k s) = stateV s := by
  simp [stateV, mkState, marks_len, mkL_len]

theorem heldState_V (s : StateH) (k : Nat) (w : World) (hh : At w [fR (stateO (mkState k s))]) (hb : s.pure.small20) (hk : k ≤ 36028797018963968) :
    Calls Try.prog 23 #[stateV s, .int .i64 (k : Int)] w (Ret w fun v L => v = .int .i64 ((atState7 k s : Nat) : Int) ∧ L = []) := by
  have := heldState_c s k w hh hb hk
  rwa [mkState_V] at this

theorem within_small {xs : List Int} {lo hi : Int} (h : within xs lo hi) : xs.length ≤ 1048576 := Nat.le_trans h.1 (by decide)

theorem start_small {p : Prog} (ok : ProgOk p) : (start p).small20 := by
  have h1 := within_small ok.sems
  have h2 := within_small ok.groups
  have h3 := within_small ok.barriers
  have h4 := within_small ok.rooms
  have h5 := ok.n4
  refine ⟨by simp [start]; omega, by simp [start]; omega, ⟨by simp [start]; omega, ?_⟩, ⟨by simp [start], ?_⟩, ⟨by simp [start]; omega, ?_⟩, ⟨by simp [start]; omega, ?_⟩, ⟨by simp [start]; omega, ?_⟩, by simp [start]⟩
  · intro x hx; obtain ⟨n, _, rfl⟩ := List.mem_map.1 hx; simp [Sem.small20]
  · intro x hx; simp [start] at hx; subst hx; simp [Once.small20]
  · intro x hx; obtain ⟨n, _, rfl⟩ := List.mem_map.1 hx; simp [Group.small20]
  · intro x hx; obtain ⟨n, _, rfl⟩ := List.mem_map.1 hx; simp [Barrier.small20]
  · intro x hx; obtain ⟨n, _, rfl⟩ := List.mem_map.1 hx; simp [Chan.small20]

theorem zero_small20 : State.zero.small20 := by
  refine ⟨by simp [State.zero], by simp [State.zero], ⟨by simp [State.zero], ?_⟩, ⟨by simp [State.zero], ?_⟩, ⟨by simp [State.zero], ?_⟩, ⟨by simp [State.zero], ?_⟩, ⟨by simp [State.zero], ?_⟩, by simp [State.zero]⟩
  all_goals
    intro x hx
    simp [State.zero] at hx

/-- What StartProg returns is told by the program alone. -/
theorem Started.one (p : Prog) : ∃ (S : State) (c : Bool), S.small20 ∧ ∀ (y : StateH) (b : Bool), (b = true ↔ ProgOk p) → (b = true → y.pure = start p) → (b = false → y.pure = State.zero) → y.pure = S ∧ b = c := by
  by_cases ok : ProgOk p
  · refine ⟨start p, true, start_small ok, fun y b h1 h2 _ => ?_⟩
    have := h1.2 ok
    exact ⟨h2 this, this⟩
  · refine ⟨State.zero, false, zero_small20, fun y b h1 _ h3 => ?_⟩
    cases b with
    | true => exact (ok (h1.1 rfl)).elim
    | false => exact ⟨h3 rfl, rfl⟩

theorem prog_small {a : ProgH} (h : a.pure.small20) : a.sems.length ≤ 1048576 ∧ a.groups.length ≤ 1048576 ∧ a.barriers.length ≤ 1048576 ∧ a.rooms.length ≤ 1048576 := ⟨h.1, h.2.1, h.2.2.1, h.2.2.2.1⟩

set_option maxHeartbeats 16000000 in
set_option maxRecDepth 100000 in
theorem exactStartProg_c (a : ProgH) (w : World) (h : At w [fR (progO a)]) :
    Calls Try.prog 5 #[progV a] w (Ret w fun v L => v = .bool true ∧ L = []) := by
  obtain ⟨S, c, hS, one⟩ := Started.one a.pure
  refine calls1 Try.func5 rfl tabOk w _ rfl _ rfl _ h ⟨rfl, rfl, trivial⟩ _ (by decide) ?_
  refine stop_call _ cl18 rfl rfl rfl rfl ⟨rfl, rfl⟩ (fun A w hW => ret_abs (szProg_c a 1048576 w ⟨hW.get 0 rfl (.refl _), trivial⟩ (by omega) (by omega))) ?_
  rintro v L ⟨l0, e0, rfl, rfl⟩
  refine CaseB.mk (fun _ => ?_) (fun hz => ?_)
  · exact retw [] ⟨rfl, rfl⟩ trivial rfl trivial (fun _ => rfl)
  have hz0 : ¬ l0 < 0 := by simpa using hz
  obtain ⟨ha, _⟩ := szProgM_gen a.pure 1048576 (by omega) (by rw [← e0]; exact hz0)
  refine stop_call _ cl19 rfl rfl rfl rfl ⟨rfl, rfl⟩ (fun A w hW => toProg_c a w ⟨hW.get 0 rfl (.refl _), trivial⟩ ha) ?_
  rintro v L ⟨p1, rfl, hp1, rfl⟩
  refine stop_call _ cl13 rfl rfl rfl rfl ⟨rfl, rfl⟩ (fun A w hW => startProgS_c p1 w ⟨hW.get 0 rfl (.O_R fun _ h => h), trivial⟩ (prog_small (by rw [hp1]; exact ha))) ?_
  rintro v L ⟨w0, b0, rfl, i1, i2, i3, rfl⟩
  rw [hp1] at i1 i2
  obtain ⟨hw0, rfl⟩ := one w0 b0 i1 i2 i3
  refine stop_call _ cl19 rfl rfl rfl rfl ⟨rfl, rfl⟩ (fun A w hW => toProg_c a w ⟨hW.get 2 rfl (.refl _), trivial⟩ ha) ?_
  rintro v L ⟨x0, rfl, hx0, rfl⟩
  refine stop_call _ cl12 rfl rfl rfl rfl ⟨rfl, rfl⟩ (fun A w hW => startProg_c x0 w ⟨hW.get 0 rfl (.O_R fun _ h => h), trivial⟩ (prog_small (by rw [hx0]; exact ha))) ?_
  rintro v L ⟨g0, b1, rfl, j1, j2, j3, rfl⟩
  rw [hx0] at j1 j2
  obtain ⟨hg0, rfl⟩ := one g0 b1 j1 j2 j3
  refine stop_call _ cl10 rfl rfl rfl rfl ⟨rfl, rfl⟩ (fun A w hW => eqState_c g0 w0 w ⟨hW.get 0 rfl (.O_R fun _ h => h), hW.get 2 rfl (.O_R fun _ h => h), trivial⟩ (by rw [hg0]; exact hS) (by rw [hw0]; exact hS)) ?_
  rintro v L ⟨rfl, rfl⟩
  refine CaseB.mk (fun g => by simp [hg0, hw0] at g) (fun _ => ?_)
  refine CaseB.mk (fun g => by simp at g) (fun _ => ?_)
  refine draw_start tabOk (by kernel_rfl) (by kernel_rfl) (by kernel_rfl) 200 [((0, 0), .v (a.h0.val a.sems.length)), ((0, 1), .v (a.h1.val a.groups.length)), ((0, 2), .v (a.h2.val a.barriers.length)), ((0, 3), .v (a.h3.val a.rooms.length)), ((0, 4), .v (a.h4.val a.threads.length)), ((2, 0), .v (x0.h0.val x0.sems.length)), ((2, 1), .v (x0.h1.val x0.groups.length)), ((2, 2), .v (x0.h2.val x0.barriers.length)), ((2, 3), .v (x0.h3.val x0.rooms.length)), ((2, 4), .v (x0.h4.val x0.threads.length))] [] [] ⟨⟨_, rfl, rfl, (by first | exact trivial | exact Nat.le_of_ble_eq_true rfl)⟩, ⟨_, rfl, rfl, (by first | exact trivial | exact Nat.le_of_ble_eq_true rfl)⟩, ⟨_, rfl, rfl, (by first | exact trivial | exact Nat.le_of_ble_eq_true rfl)⟩, ⟨_, rfl, rfl, (by first | exact trivial | exact Nat.le_of_ble_eq_true rfl)⟩, ⟨_, rfl, rfl, (by first | exact trivial | exact Nat.le_of_ble_eq_true rfl)⟩, ⟨_, rfl, rfl, (by first | exact trivial | exact Nat.le_of_ble_eq_true rfl)⟩, ⟨_, rfl, rfl, (by first | exact trivial | exact Nat.le_of_ble_eq_true rfl)⟩, ⟨_, rfl, rfl, (by first | exact trivial | exact Nat.le_of_ble_eq_true rfl)⟩, ⟨_, rfl, rfl, (by first | exact trivial | exact Nat.le_of_ble_eq_true rfl)⟩, ⟨_, rfl, rfl, (by first | exact trivial | exact Nat.le_of_ble_eq_true rfl)⟩, trivial⟩ ⟨⟨_, rfl⟩, ⟨_, rfl⟩, ⟨_, rfl⟩, ⟨_, rfl⟩, ⟨_, rfl⟩, ⟨_, rfl⟩, ⟨_, rfl⟩, ⟨_, rfl⟩, ⟨_, rfl⟩, ⟨_, rfl⟩, trivial⟩ trivial rfl ?_
  refine d_call _ cl19 rfl rfl rfl rfl ⟨rfl, rfl⟩ (fun A w hW => toProg_c a w ⟨hW.get 4 rfl (.refl _), trivial⟩ ha) ?_
  rintro v L ⟨y0, rfl, hy0, rfl⟩
  refine d_call _ cl20 rfl rfl rfl rfl ⟨rfl, rfl⟩ (fun A w hW => eqProg_c x0 y0 w ⟨hW.get 2 rfl (.O_R fun _ h => h), hW.get 0 rfl (.O_R fun _ h => h), trivial⟩ (by rw [hx0]; exact ha) (by rw [hy0]; exact ha)) ?_
  rintro v L ⟨rfl, rfl⟩
  refine CaseB.mk (fun g => by simp [hx0, hy0] at g) (fun _ => ?_)
  refine stop_callG _ [2] (G := [_]) cl21 rfl rfl rfl rfl ⟨rfl, rfl⟩ ⟨rfl, trivial⟩ ⟨rfl, rfl, trivial⟩ (fun A w hW => (markProg_c x0 1 w (hW.atG [2] (G := [_]) ⟨rfl, trivial⟩ rfl ⟨rfl, rfl, trivial⟩ [] (Fo := []) trivial rfl) (by rw [hx0]; exact ha) (by decide))) ?_
  rintro v L ⟨rfl, rfl⟩
  refine CaseB.mk (fun g => by have g' := of_decide_eq_true g; omega) (fun _ => ?_)
  refine stop_call _ cl10 rfl rfl rfl rfl ⟨rfl, rfl⟩ (fun A w hW => eqState_c g0 w0 w ⟨hW.get 2 rfl (.O_R fun _ h => h), hW.get 3 rfl (.O_R fun _ h => h), trivial⟩ (by rw [hg0]; exact hS) (by rw [hw0]; exact hS)) ?_
  rintro v L ⟨rfl, rfl⟩
  refine CaseB.mk (fun g => by simp [hg0, hw0] at g) (fun _ => ?_)
  refine CaseB.mk (fun g => by simp at g) (fun _ => ?_)
  refine stop_callG _ [2] (G := [_]) cl22 rfl rfl rfl rfl ⟨rfl, rfl⟩ ⟨rfl, trivial⟩ ⟨rfl, rfl, trivial⟩ (fun A w hW => (markState_c g0 1 w (hW.atG [2] (G := [_]) ⟨rfl, trivial⟩ rfl ⟨rfl, rfl, trivial⟩ [] (Fo := []) trivial rfl) (by rw [hg0]; exact hS) (by decide))) ?_
  rintro v L ⟨rfl, rfl⟩
  refine stop_call _ cl23 rfl rfl rfl rfl ⟨rfl, rfl⟩ (fun A w hW => heldState_V g0 1 w ⟨hW.get 0 rfl (.O_R fun _ h => h), trivial⟩ (by rw [hg0]; exact hS) (by decide)) ?_
  rintro v L ⟨rfl, rfl⟩
  refine CaseB.mk (fun g => by have g' := of_decide_eq_true g; omega) (fun _ => ?_)
  refine CaseB.mk (fun g => by simp at g) (fun _ => ?_)
  refine stop_call _ cl19 rfl rfl rfl rfl ⟨rfl, rfl⟩ (fun A w hW => toProg_c a w ⟨hW.get 5 rfl (.refl _), trivial⟩ ha) ?_
  rintro v L ⟨p2, rfl, hp2, rfl⟩
  refine stop_call _ cl12 rfl rfl rfl rfl ⟨rfl, rfl⟩ (fun A w hW => startProg_c p2 w ⟨hW.get 0 rfl (.O_R fun _ h => h), trivial⟩ (prog_small (by rw [hp2]; exact ha))) ?_
  rintro v L ⟨h0, b2, rfl, k1, k2, k3, rfl⟩
  rw [hp2] at k1 k2
  obtain ⟨hh0, rfl⟩ := one h0 b2 k1 k2 k3
  refine stop_call _ cl10 rfl rfl rfl rfl ⟨rfl, rfl⟩ (fun A w hW => eqState_c h0 w0 w ⟨hW.get 0 rfl (.O_R fun _ h => h), hW.get 5 rfl (.O_R fun _ h => h), trivial⟩ (by rw [hh0]; exact hS) (by rw [hw0]; exact hS)) ?_
  rintro v L ⟨rfl, rfl⟩
  refine CaseB.mk (fun g => by simp [hh0, hw0] at g) (fun _ => ?_)
  refine CaseB.mk (fun g => by simp at g) (fun _ => ?_)
  refine stop_call _ cl23 rfl rfl rfl rfl ⟨rfl, rfl⟩ (fun A w hW => heldState_V g0 1 w ⟨hW.get 2 rfl (.O_R fun _ h => h), trivial⟩ (by rw [hg0]; exact hS) (by decide)) ?_
  rintro v L ⟨rfl, rfl⟩
  refine CaseB.mk (fun g => by have g' := of_decide_eq_true g; omega) (fun _ => ?_)
  refine CaseB.mk (fun g => by simp at g) (fun _ => ?_)
  exact retw [] ⟨rfl, rfl⟩ trivial rfl trivial (fun _ => rfl)

end Go.Proofs.Ytpopeaoklccgcaa

namespace Go.Sx

open Go Go.RowKit Go.ChangeShapes Go.WideShapes

theorem trodAll_below {H : Type} {enc : TypeId × Value → H} {P : Program} (hl : laidOutB P = true) {W W' : World} (hb : Below W.heap.size W W') (sp : Nat → Bool) : ∀ {ts : List TypeId} {vs : List Value} {ds : List (DataW H)} {ps : List MemPlace}, (∀ t ∈ ts, P.readableRec t = true ∧ t < P.types.size) →
    DataW.TrodAll enc P W 0 (fun _ => true) true ts vs ds ps → (∀ x ∈ ps, x.block < W.heap.size) → (∀ x ∈ ps, sp x.block = true) → DataW.TrodAll enc P W' 0 sp true ts vs ds ps
  | [], [], [], ps, _, h, _, _ => h
  | t :: ts, v :: vs, d :: ds, ps, hr, h, hlt, hsp => by
    obtain ⟨p, q, h1, h2, rfl⟩ := h
    have ht := hr t (by simp)
    exact ⟨p, q, WideElems.Trod_stays hl ht.1 ht.2 h1 (fun x hx => hb.same (hlt x (by simp [hx]))) (fun x hx => hsp x (by simp [hx])),
      trodAll_below hl hb sp (fun t ht => hr t (by simp [ht])) h2 (fun x hx => hlt x (by simp [hx])) (fun x hx => hsp x (by simp [hx])), rfl⟩
  | [], _ :: _, _, _, _, h, _, _ => h.elim
  | _ :: _, [], _, _, _, h, _, _ => h.elim
  | [], [], _ :: _, _, _, h, _, _ => h.elim
  | _ :: _, _ :: _, [], _, _, h, _, _ => h.elim

/-- A law that answers true and leaves old memory alone: what its row asks behind the call. -/
theorem law_post {H : Type} {enc : TypeId × Value → H} {P : Program} {f : Func} {s : ChangeSpec} {apart fresh handsOn again : Bool} {W W' : World} {args : Array Value} {ds gs : List (DataW H)} {before : List MemPlace} {tb : TypeId} {pl : List TypeId}
    (hl : laidOutB P = true) (hpl : f.params.toList = pl) (hp : pl.all (fun t => P.readableRec t && decide (t < P.types.size)) = true) (hvars : s.vars = []) (hres : f.resultTypes = #[tb]) (htb : P.underlying tb = some .bool)
    (hspec : s.fn H (ds ++ gs) = { results := [.lit (.bool true)], args := ds })
    (hW : DataW.Whole enc P f.params.toList s.vars apart W args.toList ds gs before) (hb : Below W.heap.size W W') :
    s.post enc P f apart fresh handsOn again W args (.bool true) W' := by
  have hold : ∀ p ∈ before, p.block < W.heap.size := fun p hp => by simpa using hW.lt p hp
  have hW0 := hW
  obtain ⟨pa, pv, hA, hV, hbef, hfz, hnd⟩ := hW
  have hbef' := hbef.symm; clear hbef
  rw [hvars] at hV
  obtain ⟨rfl, rfl⟩ := trodVars_none hV
  rw [List.append_nil] at hbef'
  subst hbef'
  rw [List.append_nil] at hspec
  have hp' : ∀ t ∈ f.params.toList, P.readableRec t = true ∧ t < P.types.size := fun t ht => by
    rw [hpl] at ht
    have := List.all_eq_true.1 hp t ht
    simpa using this
  have hB : ∀ (b : Nat) (sp : Nat → Bool) (hd : Bool), DataW.Trod enc P W' b sp hd tb (.bool true) (.lit (.bool true)) [] := fun b sp hd => ⟨1, by simp [DataW.trod, Value.cells, htb]⟩
  have hrl : (Value.bool true).resultList f.resultTypes.size = [.bool true] := by rw [hres]; rfl
  have hR : ∀ (b : Nat) (sp : Nat → Bool) (hd : Bool), DataW.TrodAll enc P W' b sp hd f.resultTypes.toList ((Value.bool true).resultList f.resultTypes.size) [.lit (.bool true)] [] := fun b sp hd => by
    rw [hrl, hres]; exact trodAll_mk1 (hB b sp hd)
  have hAr := fun sp h => trodAll_below hl hb sp hp' hA hold h
  have hvv : ∀ sp, DataW.TrodVars enc P W' sp s.vars ([] : List (DataW H)) [] := fun sp => by rw [hvars]; rfl
  refine ⟨ds, [], pa, [], pa, [], hW0, ?_, ?_, ?_, ?_, fun _ => ⟨?_, [.lit (.bool true)] ++ ds, [], [] ++ pa, ⟨[] ++ pa, [], trodAll_append (hAr _ (fun _ _ => rfl)) (hR _ _ _), hvv _, by simp, ?_, ?_⟩, fun p hp _ => by simpa using hp⟩⟩
  · simp only [List.append_nil, hspec]; exact hR _ _ _
  · simp only [List.append_nil, hspec]; exact hAr _ (fun p hp => by simpa using hold p hp)
  · simp only [List.append_nil, hspec]; exact hvv _
  · exact World.keptBut_mono (fun p hp => hp.elim) (hb.frame (fun _ => False))
  · intro j t r hj hv
    rw [hrl] at hv
    rw [hres] at hj
    cases j with
    | succ j => simp at hv
    | zero =>
      simp at hj hv
      subst hj; subst hv
      simp [Value.okWide, htb, Cell.okWide, Cell.ok]
  · intro b off hp
    rw [hb.frozen (hold _ (by simpa using hp))]
    exact hfz b off (by simpa using hp)
  · intro h
    simpa using hnd h

section

variable {H : Type} {enc : TypeId × Value → H} {P : Program} {W : World}

theorem cells_inv {α : Type} {el : α → List Value} {sz : Nat} (he : Enc el sz) (h0 : 0 < sz) {xs : List α} {j : Nat} {u : Value} (h : (cells el xs)[j]? = some u) : ∃ (k r : Nat) (hk : k < xs.length), j = k * sz + r ∧ (el xs[k])[r]? = some u := by
  have hlt : j < xs.length * sz := by rw [← cells_length he]; exact (List.getElem?_eq_some_iff.1 h).1
  have hk : j / sz < xs.length := Nat.div_lt_of_lt_mul (by rwa [Nat.mul_comm] at hlt)
  have hr : j % sz < sz := Nat.mod_lt _ h0
  have hj : j = j / sz * sz + j % sz := (Nat.div_add_mod' j sz).symm
  refine ⟨j / sz, j % sz, hk, hj, ?_⟩
  have hr' : j % sz < (el xs[j / sz]).length := by rw [he.len]; exact hr
  have := cells_at he hk (List.getElem?_eq_getElem hr')
  rw [← hj, h] at this
  rw [List.getElem?_eq_getElem hr', ← this]

/-- A slice opened: its elements read one by one. -/
theorem open_sl {α : Type} {el : α → List Value} {sz : Nat} (he : Enc el sz) (h0 : 0 < sz) {t e : TypeId} {fuel : Nat} {cs : List Value} {x : DataW H × List MemPlace} (ht : P.underlying t = some (.slice e)) (hc : P.cellsOf e = sz)
    (hel : ∀ n cs y, DataW.trod enc P W 0 (fun _ => true) true n e cs = some y → ∃ a : α, cs = el a)
    (h : DataW.trod enc P W 0 (fun _ => true) true fuel t cs = some x) :
    ∃ (i : Sl) (xs : List α), cs = [i.val xs.length] ∧ RdS W i sz (cells el xs) xs.length ∧ ∀ b, (fSl true i sz (cells el xs) xs.length).foot b → b < W.heap.size := by
  rcases Deep.open_slice ht h with ⟨rfl, rfl⟩ | ⟨a, len, cap, m, n, D, Pl, rfl, hb, hl, hm, hmm, rfl, hx⟩
  · exact ⟨⟨none, 0⟩, [], rfl, ⟨by simp [cells], by simp, by simp [maxLen], fun h => by simp at h⟩, fun b hb => by have := hb.1; simp at this⟩
  · rw [hc] at hx
    have hlm : len ≤ m := by rw [hmm]; simp; omega
    have hone : ∀ i, i < len → ∃ y : α, ∀ r u, (el y)[r]? = some u → W.cell? (a.add (i * sz + r)) = some u := fun i hi => by
      obtain ⟨cs', h1, h2⟩ := hx i (by omega)
      obtain ⟨y, rfl⟩ := hel _ _ _ h2
      obtain ⟨_, g1, g2⟩ := World.cells?_some h1
      refine ⟨y, fun r u hu => ?_⟩
      have hr : r < sz := by rw [← g1]; exact (List.getElem?_eq_some_iff.1 hu).1
      have := g2 r hr
      rw [addr_add_add, hu] at this
      exact this
    rcases Nat.eq_zero_or_pos len with hz | hz
    · subst hz
      exact ⟨⟨some a, cap⟩, [], rfl, ⟨by simp [cells], by simp, hm, fun h => by simp at h⟩, fun b hb => by have := hb.1; simp at this⟩
    · have : Inhabited α := ⟨(hone 0 hz).choose⟩
      obtain ⟨X, hX⟩ := Deep.choose_lt hone
      have hlen : ((List.range len).map X).length = len := by simp
      refine ⟨⟨some a, cap⟩, (List.range len).map X, by rw [hlen]; rfl, ⟨by rw [cells_length he], by rw [hlen]; exact hl, hm, fun _ => ⟨a, rfl, fun j u hu => ?_⟩⟩, ?_⟩
      · obtain ⟨k, r, hk, rfl, hu'⟩ := cells_inv he h0 hu
        have hk' : k < len := by simpa using hk
        exact hX k hk' r u (by simpa using hu')
      · rintro b ⟨_, ad, had, rfl⟩
        injection had with had
        subst had
        have hr : 0 < (el (X 0)).length := by rw [he.len]; exact h0
        have hc0 := hX 0 hz 0 _ (List.getElem?_eq_getElem hr)
        unfold World.cell? at hc0
        rw [block_add] at hc0
        cases hh : W.heap[a.block]? with
        | none => rw [hh] at hc0; simp at hc0
        | some o => exact (Array.getElem?_eq_some_iff.1 hh).1

/-- A struct opened: each field. -/
theorem trod_fields {t : TypeId} {sp : Nat → Bool} {hd : Bool} {b fuel sz : Nat} {cs : List Value} {x : DataW H × List MemPlace} {l : List (TypeId × Nat × Nat)} (hS : P.underlying t = some (.struct (P.fieldsOf t)))
    (hF : (P.fieldsOf t).toList.map (fun f => (f.type, f.offset, P.cellsOf f.type)) = l) (hsz : P.cellsOf t = sz) (h : DataW.trod enc P W b sp hd fuel t cs = some x) :
    cs.length = sz ∧ ∃ n, ∀ (j : Nat) (ty : TypeId) (off c : Nat), l[j]? = some (ty, off, c) → ∃ y, DataW.trod enc P W b sp hd n ty ((cs.drop off).take c) = some y := by
  obtain ⟨xs, n, _, _, hl, hn, hf⟩ := DataW.trod_struct hS h
  refine ⟨hl.trans hsz, n, fun j ty off c hj => ?_⟩
  rw [← hF, List.getElem?_map] at hj
  cases hfj : (P.fieldsOf t).toList[j]? with
  | none => rw [hfj] at hj; simp at hj
  | some f =>
    rw [hfj] at hj
    simp only [Option.map_some, Option.some.injEq, Prod.mk.injEq] at hj
    obtain ⟨rfl, rfl, rfl⟩ := hj
    have hfj' : (P.fieldsOf t)[j]? = some f := by simpa using hfj
    have := hf j f hfj'
    have hlt : j < xs.length := by rw [hn]; exact (Array.getElem?_eq_some_iff.1 hfj').1
    rw [List.getElem?_eq_getElem hlt] at this
    exact ⟨_, this⟩

end

end Go.Sx

namespace Go.Proofs.Ytpopeaoklccgcaa

open Go Go.Sx Go.RowKit Go.ChangeShapes Go.WideShapes

theorem ownNone : ownKnob Try.prog.godebug = none := by kernel_rfl

theorem laidOut : laidOutB Try.prog = true := by kernel_rfl

theorem undBool : Try.prog.underlying 4 = some .bool := by kernel_rfl

end Go.Proofs.Ytpopeaoklccgcaa

namespace Go.Sx

open Go Go.RowKit Go.ChangeShapes Go.WideShapes

/-- What all of G read stands at W. -/
def AllR (W : World) (G : List Fct) : Prop := ∀ f ∈ G, f.aged.P W ∧ ∀ b, f.aged.foot b → b < W.heap.size

theorem AllR.nil (W : World) : AllR W [] := fun _ h => by cases h

theorem AllR.cons {W : World} {f : Fct} {G : List Fct} (h : f.aged.P W ∧ ∀ b, f.aged.foot b → b < W.heap.size) (k : AllR W G) : AllR W (f :: G) := fun g hg => by
  rcases List.mem_cons.1 hg with rfl | hg
  · exact h
  · exact k g hg

theorem AllR.append {W : World} {G H : List Fct} (h : AllR W G) (k : AllR W H) : AllR W (G ++ H) := fun g hg => by
  rcases List.mem_append.1 hg with hg | hg
  · exact h g hg
  · exact k g hg

theorem AllR.flat {W : World} {α : Type} {xs : List α} {inner : α → List Fct} (h : ∀ x ∈ xs, AllR W (inner x)) : AllR W (xs.flatMap inner) := fun g hg => by
  obtain ⟨x, hx, hg⟩ := List.mem_flatMap.1 hg
  exact h x hx g hg

theorem AllR.at {W : World} {G : List Fct} (h : AllR W G) : (fR G).P W ∧ ∀ b, (fR G).foot b → b < W.heap.size := by
  refine ⟨fun g hg => ?_, ?_⟩
  · obtain ⟨f, hf, rfl⟩ := List.mem_map.1 hg
    exact (h f hf).1
  · rintro b ⟨g, hg, hb⟩
    obtain ⟨f, hf, rfl⟩ := List.mem_map.1 hg
    exact (h f hf).2 b hb

section

variable {H : Type} {enc : TypeId × Value → H} {P : Program} {W : World}

/-- A slice opened: its elements read one by one, each with what it holds. -/
theorem open_slQ {α : Type} {el : α → List Value} {sz : Nat} {Q : α → Prop} (he : Enc el sz) (h0 : 0 < sz) {t e : TypeId} {fuel : Nat} {cs : List Value} {x : DataW H × List MemPlace} (ht : P.underlying t = some (.slice e)) (hc : P.cellsOf e = sz)
    (hel : ∀ n cs y, DataW.trod enc P W 0 (fun _ => true) true n e cs = some y → ∃ a : α, cs = el a ∧ Q a)
    (h : DataW.trod enc P W 0 (fun _ => true) true fuel t cs = some x) :
    ∃ (i : Sl) (xs : List α), cs = [i.val xs.length] ∧ RdS W i sz (cells el xs) xs.length ∧ (∀ b, (fSl true i sz (cells el xs) xs.length).foot b → b < W.heap.size) ∧ ∀ x ∈ xs, Q x := by
  rcases Deep.open_slice ht h with ⟨rfl, rfl⟩ | ⟨a, len, cap, m, n, D, Pl, rfl, hb, hl, hm, hmm, rfl, hx⟩
  · exact ⟨⟨none, 0⟩, [], rfl, ⟨by simp [cells], by simp, by simp [maxLen], fun h => by simp at h⟩, fun b hb => by have := hb.1; simp at this, by simp⟩
  · rw [hc] at hx
    have hlm : len ≤ m := by rw [hmm]; simp; omega
    have hone : ∀ i, i < len → ∃ y : α, (∀ r u, (el y)[r]? = some u → W.cell? (a.add (i * sz + r)) = some u) ∧ Q y := fun i hi => by
      obtain ⟨cs', h1, h2⟩ := hx i (by omega)
      obtain ⟨y, rfl, hq⟩ := hel _ _ _ h2
      obtain ⟨_, g1, g2⟩ := World.cells?_some h1
      refine ⟨y, fun r u hu => ?_, hq⟩
      have hr : r < sz := by rw [← g1]; exact (List.getElem?_eq_some_iff.1 hu).1
      have := g2 r hr
      rw [addr_add_add, hu] at this
      exact this
    rcases Nat.eq_zero_or_pos len with hz | hz
    · subst hz
      exact ⟨⟨some a, cap⟩, [], rfl, ⟨by simp [cells], by simp, hm, fun h => by simp at h⟩, fun b hb => by have := hb.1; simp at this, by simp⟩
    · have : Inhabited α := ⟨(hone 0 hz).choose⟩
      obtain ⟨X, hX⟩ := Deep.choose_lt hone
      have hlen : ((List.range len).map X).length = len := by simp
      refine ⟨⟨some a, cap⟩, (List.range len).map X, by rw [hlen]; rfl, ⟨by rw [cells_length he], by rw [hlen]; exact hl, hm, fun _ => ⟨a, rfl, fun j u hu => ?_⟩⟩, ?_, ?_⟩
      · obtain ⟨k, r, hk, rfl, hu'⟩ := cells_inv he h0 hu
        have hk' : k < len := by simpa using hk
        exact (hX k hk').1 r u (by simpa using hu')
      · rintro b ⟨_, ad, had, rfl⟩
        injection had with had
        subst had
        have hr : 0 < (el (X 0)).length := by rw [he.len]; exact h0
        have hc0 := (hX 0 hz).1 0 _ (List.getElem?_eq_getElem hr)
        unfold World.cell? at hc0
        rw [block_add] at hc0
        cases hh : W.heap[a.block]? with
        | none => rw [hh] at hc0; simp at hc0
        | some o => exact (Array.getElem?_eq_some_iff.1 hh).1
      · intro x hx
        obtain ⟨k, hk, rfl⟩ := List.mem_map.1 hx
        exact (hX k (by simpa using hk)).2

end

end Go.Sx

namespace Go.Proofs.Ytpopeaoklccgcaa

open Go Go.Sx Go.RowKit Go.ChangeShapes Go.WideShapes

theorem undI : Try.prog.underlying 3 = some (.int .i64) := by kernel_rfl

theorem undIs : Try.prog.underlying 22 = some (.slice 3) := by kernel_rfl

theorem el_int {H : Type} {enc : TypeId × Value → H} {W : World} : ∀ (n : Nat) (cs : List Value) (y : DataW H × List MemPlace), DataW.trod enc Try.prog W 0 (fun _ => true) true n 3 cs = some y → ∃ a : Int, cs = cInt a := fun n cs y hy => by
  obtain ⟨k, h1, _, _⟩ := DataW.trod_int undI hy
  exact ⟨k, h1⟩

theorem structOp : Try.prog.underlying 197 = some (.struct (Try.prog.fieldsOf 197)) := by kernel_rfl

theorem fieldsOp : (Try.prog.fieldsOf 197).toList.map (fun f => (f.type, f.offset, Try.prog.cellsOf f.type)) = [(3, 0, 1), (3, 1, 1), (3, 2, 1)] := by kernel_rfl

theorem undOpS : Try.prog.underlying 172 = some (.slice 197) := by kernel_rfl

set_option maxRecDepth 100000 in
theorem el_Op {H : Type} {enc : TypeId × Value → H} {W : World} : ∀ (n : Nat) (cs : List Value) (y : DataW H × List MemPlace), DataW.trod enc Try.prog W 0 (fun _ => true) true n 197 cs = some y → ∃ a : Op, cs = cOp a := fun n cs y hy => by
  obtain ⟨hl, k, hx⟩ := trod_fields structOp fieldsOp (sz := 3) (by kernel_rfl) hy
  match cs, hl with
  | [a0, a1, a2], _ =>
    obtain ⟨_, h0⟩ := hx 0 _ _ _ rfl
    obtain ⟨p0, e0⟩ := el_int _ _ _ h0
    obtain ⟨_, h1⟩ := hx 1 _ _ _ rfl
    obtain ⟨p1, e1⟩ := el_int _ _ _ h1
    obtain ⟨_, h2⟩ := hx 2 _ _ _ rfl
    obtain ⟨p2, e2⟩ := el_int _ _ _ h2
    simp [cInt] at e0 e1 e2
    exact ⟨⟨p0, p1, p2⟩, by simp [cOp, e0, e1, e2]⟩

theorem undOpSS : Try.prog.underlying 53 = some (.slice 172) := by kernel_rfl

theorem el_OpS {H : Type} {enc : TypeId × Value → H} {W : World} : ∀ (n : Nat) (cs : List Value) (y : DataW H × List MemPlace), DataW.trod enc Try.prog W 0 (fun _ => true) true n 172 cs = some y → ∃ a : OpSH, cs = cOpSH a ∧ AllR W (opSO a) := fun n cs y hy => by
  obtain ⟨i, xs, e, r, f⟩ := open_sl encOp (by decide) undOpS (by kernel_rfl) el_Op hy
  exact ⟨⟨xs, i⟩, e, AllR.cons ⟨r, f⟩ (AllR.nil W)⟩

theorem structProg : Try.prog.underlying 55 = some (.struct (Try.prog.fieldsOf 55)) := by kernel_rfl

theorem fieldsProg : (Try.prog.fieldsOf 55).toList.map (fun f => (f.type, f.offset, Try.prog.cellsOf f.type)) = [(22, 0, 1), (22, 1, 1), (22, 2, 1), (22, 3, 1), (53, 4, 1)] := by kernel_rfl

set_option maxRecDepth 100000 in
theorem open_Prog {H : Type} {enc : TypeId × Value → H} {W : World} {base : Nat} {v : Value} {d : DataW H} {p : List MemPlace} (hv : Value.okWide Try.prog W .any base 55 v) (h : DataW.Trod enc Try.prog W 0 (fun _ => true) true 55 v d p) :
    ∃ s : ProgH, v = progV s ∧ (fR (progO s)).P W ∧ ∀ b, (fR (progO s)).foot b → b < W.heap.size := by
  obtain ⟨vs, rfl, _⟩ := okWide_struct structProg hv
  obtain ⟨fuel, hf⟩ := h
  obtain ⟨hl, k, hx⟩ := trod_fields structProg fieldsProg (sz := 5) (by kernel_rfl) hf
  obtain ⟨cs⟩ := vs
  have hl : cs.length = 5 := hl
  match cs, hl with
  | [a0, a1, a2, a3, a4], _ =>
    obtain ⟨_, h0⟩ := hx 0 _ _ _ rfl
    obtain ⟨i0, p0, e0, r0, f0⟩ := open_sl encInt Nat.zero_lt_one undIs (by kernel_rfl) el_int h0
    obtain ⟨_, h1⟩ := hx 1 _ _ _ rfl
    obtain ⟨i1, p1, e1, r1, f1⟩ := open_sl encInt Nat.zero_lt_one undIs (by kernel_rfl) el_int h1
    obtain ⟨_, h2⟩ := hx 2 _ _ _ rfl
    obtain ⟨i2, p2, e2, r2, f2⟩ := open_sl encInt Nat.zero_lt_one undIs (by kernel_rfl) el_int h2
    obtain ⟨_, h3⟩ := hx 3 _ _ _ rfl
    obtain ⟨i3, p3, e3, r3, f3⟩ := open_sl encInt Nat.zero_lt_one undIs (by kernel_rfl) el_int h3
    obtain ⟨_, h4⟩ := hx 4 _ _ _ rfl
    obtain ⟨i4, p4, e4, r4, f4, q4⟩ := open_slQ encOpSH (by decide) undOpSS (by kernel_rfl) el_OpS h4
    simp [Value.cells] at e0 e1 e2 e3 e4
    refine ⟨⟨p0, p1, p2, p3, p4, i0, i1, i2, i3, i4⟩, ?_, AllR.at ?_⟩
    · simp [progV, e0, e1, e2, e3, e4]
    · exact AllR.cons ⟨r0, f0⟩ (AllR.cons ⟨r1, f1⟩ (AllR.cons ⟨r2, f2⟩ (AllR.cons ⟨r3, f3⟩ ((AllR.cons ⟨r4, f4⟩ (AllR.flat q4))))))

set_option maxRecDepth 100000 in
theorem lifted_P {f : FuncId} {fn : Func} {s : ChangeSpec} {conds : List PathCond} (hf : Try.checked.prog.funcs[f]? = some fn) (hfn : Try.checked.prog.inits.idxOf? f = none) (hpl : fn.params = #[55]) (hres : fn.resultTypes = #[4]) (hvars : s.vars = [])
    (hspec : ∀ (H : Type) (d0 : DataW H), s.fn H [d0] = { results := [.lit (.bool true)], args := [d0] })
    (hc : ∀ (x0 : ProgH) (w : World), At w [fR (progO x0)] → Calls Try.prog f #[progV x0] w (Ret w fun v L => v = .bool true ∧ L = []))
    (os : Os) (started : os.Started) (H : Type) (enc : TypeId × Value → H)
    (wit : ∃ (w : World) (tape : Tape) (i : Input), w.os = os ∧ (w.forCall tape i).Shaped Try.checked.prog ∧ i.vars = [] ∧ Input.okWide Try.checked.prog (w.forCall tape i) .any w.heap.size f i ∧
      s.pre6 enc Try.checked.prog fn conds false (w.forCall tape i).memory i.args ∧ ({} : Assume).holds Try.checked.prog (lone (Frame.enter Try.checked.prog f i.args .normal) [] (w.forCall tape i))) :
    ReturnsInHanded {} Try.checked os f .any (s.pre6 enc Try.checked.prog fn conds false) (s.post enc Try.checked.prog fn false true false false) := by
  refine returnsInHanded_of_change (C := Try.checked) ownNone started hfn hf wit ?_
  intro W base args ds gs before hval hW _ _
  have hW' := hW
  obtain ⟨p, q, hA0, hV, _, _, _⟩ := hW
  rw [hpl] at hA0
  have hA : DataW.TrodAll enc Try.prog W 0 (fun _ => true) true [55] args.toList ds p := hA0
  obtain ⟨v0, d0, rfl, rfl, h0⟩ := trodAll_one hA
  obtain ⟨x0, rfl, hat0⟩ := open_Prog (hval 0 55 v0 (by rw [hpl]; rfl) rfl) h0
  refine (hc x0 W ⟨hat0, trivial⟩).mono fun e W' hR => ?_
  obtain ⟨v, L, rfl, he, _, rfl, _⟩ := hR
  rw [hvars] at hV
  obtain ⟨rfl, _⟩ := trodVars_none hV
  exact ⟨_, rfl, law_post (P := Try.prog) laidOut (pl := [55]) (by rw [hpl]) (by kernel_rfl) hvars hres undBool (hspec H d0) hW' he.below⟩

end Go.Proofs.Ytpopeaoklccgcaa

namespace Go.Proofs.Ytpopeaoklccgcaa

open Go Go.Sx Go.RowKit Go.ChangeShapes Go.WideShapes

set_option maxRecDepth 100000 in
theorem fnExactStartProg_lifted (os : Os) (started : os.Started) (H : Type) (enc : TypeId × Value → H) :
    ReturnsInHanded {} Try.checked os 5 .any (Rows.fnExactStartProgSpec.pre6 enc Try.checked.prog Try.f5 Rows.fnExactStartProgRow.domain false) (Rows.fnExactStartProgSpec.post enc Try.checked.prog Try.f5 false true false false) :=
  lifted_P Try.func5 (by kernel_rfl) rfl rfl rfl (fun _ _ => rfl) exactStartProg_c os started H enc
    (ChangeSpec.witness6 (enc := enc) (C := Try.checked) false ⟨#[], #[.agg #[.slice none 0 0, .slice none 0 0, .slice none 0 0, .slice none 0 0, .slice none 0 0]], []⟩ 8 (by kernel_rfl) (by kernel_rfl) (by kernel_rfl) (by kernel_rfl))

theorem fnExactStartProg_holds : Rows.FnExactStartProgSaid :=
  OpenClaim.holds_of_wide 5 Try.f5 rfl rfl rfl rfl rfl rfl rfl ⟨rfl, rfl, rfl, rfl, rfl⟩ rfl rfl rfl rfl rfl (by kernel_rfl) Try.func5 (by kernel_rfl)
    (of_decide_eq_true (by kernel_rfl)) (by unfold Func.isWrapper; first | (rw [if_pos (by decide +kernel)]; kernel_rfl) | (rw [if_neg (by decide +kernel)]; exact ⟨rfl, rfl⟩))
    (fun os started H enc _ => fnExactStartProg_lifted os started H enc)

end Go.Proofs.Ytpopeaoklccgcaa
