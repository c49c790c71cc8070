/- FnStartProg: texts that its proof stands on, part 4. -/
import Derived.Test.YtjkkoonennpceaaQStartProgc
namespace Go.Proofs.Ytjkkoonennpceaa

open Go Go.Sx Go.RowKit

def l6Words : List ByteArray := [⟨#[]⟩, ⟨#[115, 97, 121]⟩, ⟨#[97, 99, 113, 117, 105, 114, 101]⟩, ⟨#[114, 101, 108, 101, 97, 115, 101]⟩, ⟨#[111, 110, 99, 101]⟩, ⟨#[97, 100, 100]⟩, ⟨#[119, 97, 105, 116]⟩, ⟨#[97, 114, 114, 105, 118, 101]⟩, ⟨#[115, 101, 110, 100]⟩, ⟨#[103, 101, 116]⟩, ⟨#[99, 108, 111, 115, 101]⟩]

def cStr (b : ByteArray) : List Value := [.string b]

theorem encStr : Enc cStr 1 := ⟨fun _ => rfl, fun _ u hu => by simp [cStr] at hu; subst hu; rfl⟩

def wordOf (k : Int) : ByteArray := if 1 ≤ k ∧ k ≤ 10 then l6Words.getD k.toNat ⟨#[]⟩ else ⟨#[]⟩

theorem wordOf_empty (k : Int) : ((wordOf k).toList == (⟨#[]⟩ : ByteArray).toList) = true ↔ ¬ (1 ≤ k ∧ k ≤ 10) := by
  unfold wordOf
  by_cases h : 1 ≤ k ∧ k ≤ 10
  · rw [if_pos h]
    have : k = 1 ∨ k = 2 ∨ k = 3 ∨ k = 4 ∨ k = 5 ∨ k = 6 ∨ k = 7 ∨ k = 8 ∨ k = 9 ∨ k = 10 := by omega
    simp only [h, and_self, not_true_eq_false, iff_false]
    rw [← beq_toListBytes]
    rcases this with rfl | rfl | rfl | rfl | rfl | rfl | rfl | rfl | rfl | rfl <;> decide
  · rw [if_neg h]
    simp [h]

set_option maxHeartbeats 4000000 in
set_option maxRecDepth 100000 in
theorem l6Word_c (k : Int) (w : World) : Calls Try.prog 63 #[.int .i64 k] w (Ret w fun v L => v = .string (wordOf k) ∧ L = []) := by
  refine calls1 Try.func63 rfl tabOk w _ rfl _ rfl [] trivial trivial _ (by decide) ?_
  refine AllSl.mk fun y => ?_
  refine CaseB.mk (fun g => ?_) (fun g => ?_)
  · have q : ¬ (1 ≤ k ∧ k ≤ 10) := by simp at g; omega
    exact retw [] ⟨by rw [wordOf, if_neg q], rfl⟩ trivial rfl trivial (fun _ => rfl)
  refine CaseB.mk (fun g2 => ?_) (fun g2 => ?_)
  · have q : ¬ (1 ≤ k ∧ k ≤ 10) := by simp at g2; omega
    exact retw [] ⟨by rw [wordOf, if_neg q], rfl⟩ trivial rfl trivial (fun _ => rfl)
  have q : 1 ≤ k ∧ k ≤ 10 := by simp at g g2; omega
  have hlt : k.toNat < l6Words.length := by show k.toNat < 11; omega
  refine stop_idx encStr (xs := l6Words) tabOk rfl rfl rfl rfl rfl ⟨rfl, rfl⟩ (rdOwnAt 0 rfl) k.toNat (by omega) hlt (fun ad => ?_)
  exact retw [] ⟨by rw [wordOf, if_pos q]; simp [List.getD, hlt], rfl⟩ trivial rfl trivial (fun _ => rfl)

set_option maxRecDepth 100000 in
theorem l6Numbers_c (i : Sl) (xs : List Int) (lo hi : Int) (w : World) (h : At w [slo i cInt 1 xs]) (hb : xs.length ≤ 4294967296) :
    Calls Try.prog 43 #[i.val xs.length, .int .i64 lo, .int .i64 hi] w (Tells w (within xs lo hi)) := by
  refine calls3 Try.func43 rfl tabOk w _ rfl _ rfl _ h ⟨rfl, rfl, trivial⟩ _ _ _ (by decide) ?_
  refine LoopW.mk ⟨{ k : Nat // k ≤ xs.length ∧ k ≤ 4 ∧ ∀ x ∈ xs.take k, lo ≤ x ∧ x ≤ hi },
    fun k => .mk [(0, .v (i.val xs.length)), (1, .v (.int .i64 lo)), (2, .v (.int .i64 hi)), (7, .v (.int .i64 (k.1 : Int)))] 0 0 [] [] [slo i cInt 1 xs],
    fun k => xs.length - k.1, ⟨0, Nat.zero_le _, by omega, by simp⟩, ?_, ?_⟩
  · refine weak_mk [0] ?_ ?_ ?_ ?_ ?_ rfl rfl
    · repeat (first | exact trivial | refine ⟨⟨_, rfl, (by first | exact .of rfl | exact .lit rfl | exact .of (by first | (rfl)) | exact .lit (by first | (rfl))), (by first | exact trivial | exact Nat.le_of_ble_eq_true rfl | exact small1 rfl)⟩, ?_⟩)
    · repeat (first | exact trivial | refine ⟨⟨(by first | exact .head _ | exact .tail _ (.head _) | exact .tail _ (.tail _ (.head _)) | exact .tail _ (.tail _ (.tail _ (.head _))) | exact .tail _ (.tail _ (.tail _ (.tail _ (.head _)))) | exact .tail _ (.tail _ (.tail _ (.tail _ (.tail _ (.head _))))) | exact .tail _ (.tail _ (.tail _ (.tail _ (.tail _ (.tail _ (.head _)))))) | exact .tail _ (.tail _ (.tail _ (.tail _ (.tail _ (.tail _ (.tail _ (.head _))))))) | exact .tail _ (.tail _ (.tail _ (.tail _ (.tail _ (.tail _ (.tail _ (.tail _ (.head _)))))))) | exact .tail _ (.tail _ (.tail _ (.tail _ (.tail _ (.tail _ (.tail _ (.tail _ (.tail _ (.head _)))))))))), Nat.le_of_ble_eq_true rfl⟩, ?_⟩)
    · repeat (first | exact trivial | refine ⟨⟨_, rfl, (by first | exact .of rfl | exact .lit rfl | exact .of (by first | (rfl)) | exact .lit (by first | (rfl))), (by first | exact trivial | exact Nat.le_of_ble_eq_true rfl | exact small1 rfl)⟩, ?_⟩)
    · repeat (first | exact trivial | refine ⟨⟨_, rfl⟩, ?_⟩)
    · repeat (first | exact trivial | refine ⟨.inl ⟨_, rfl, (by first | rfl | (rfl))⟩, ?_⟩ | refine ⟨.inr ⟨Nat.le_of_ble_eq_true rfl, rfl, rfl, rfl, rfl⟩, ?_⟩)
  rintro ⟨k, hk, h4, hinv⟩
  refine CaseB.mk (fun g => ?_) (fun g => ?_)
  · have hlt : k < xs.length := by simpa using g
    refine CaseB.mk (fun g => ?_) (fun g => ?_)
    · have h3 : k ≤ 3 := by simp at g; omega
      refine stop_idx encInt tabOk rfl rfl rfl rfl rfl ⟨rfl, rfl⟩ (by first | exact rdAt 0 rfl | exact rdOwnAt 0 rfl | exact rdAt 1 rfl | exact rdOwnAt 1 rfl | exact rdAt 2 rfl | exact rdOwnAt 2 rfl | exact rdAt 3 rfl | exact rdOwnAt 3 rfl | exact rdAt 4 rfl | exact rdOwnAt 4 rfl | exact rdAt 5 rfl | exact rdOwnAt 5 rfl | exact rdAt 6 rfl | exact rdOwnAt 6 rfl | exact rdAt 7 rfl | exact rdOwnAt 7 rfl | exact rdAt 8 rfl | exact rdOwnAt 8 rfl | exact rdAt 9 rfl | exact rdOwnAt 9 rfl | exact rdAt 10 rfl | exact rdOwnAt 10 rfl | exact rdAt 11 rfl | exact rdOwnAt 11 rfl | exact rdAt 12 rfl | exact rdOwnAt 12 rfl | exact rdAt 13 rfl | exact rdOwnAt 13 rfl | exact rdAt 14 rfl | exact rdOwnAt 14 rfl | exact rdAt 15 rfl | exact rdOwnAt 15 rfl | exact rdAt 16 rfl | exact rdOwnAt 16 rfl | exact rdAt 17 rfl | exact rdOwnAt 17 rfl | exact rdAt 18 rfl | exact rdOwnAt 18 rfl | exact rdAt 19 rfl | exact rdOwnAt 19 rfl | exact rdAt 20 rfl | exact rdOwnAt 20 rfl | exact rdAt 21 rfl | exact rdOwnAt 21 rfl | exact rdAt 22 rfl | exact rdOwnAt 22 rfl | exact rdAt 23 rfl | exact rdOwnAt 23 rfl) k rfl (by first | omega | (simp; done) | (simp; omega) | (unfold maxLen; omega) | (unfold maxLen; simp; done) | (unfold maxLen; simp; omega)) (fun ad => ?_)
      refine CaseB.mk (fun g => ?_) (fun g => ?_)
      · have q : xs[k] < lo := by simpa using g
        exact retw [] ⟨_, rfl, tno fun e => by have := (e.2 _ (List.getElem_mem hlt)).1; omega, rfl⟩ trivial rfl trivial (fun _ => rfl)
      have q1 : ¬ xs[k] < lo := by simpa using g
      refine stop_idx encInt tabOk rfl rfl rfl rfl rfl ⟨rfl, rfl⟩ (by first | exact rdAt 0 rfl | exact rdOwnAt 0 rfl | exact rdAt 1 rfl | exact rdOwnAt 1 rfl | exact rdAt 2 rfl | exact rdOwnAt 2 rfl | exact rdAt 3 rfl | exact rdOwnAt 3 rfl | exact rdAt 4 rfl | exact rdOwnAt 4 rfl | exact rdAt 5 rfl | exact rdOwnAt 5 rfl | exact rdAt 6 rfl | exact rdOwnAt 6 rfl | exact rdAt 7 rfl | exact rdOwnAt 7 rfl | exact rdAt 8 rfl | exact rdOwnAt 8 rfl | exact rdAt 9 rfl | exact rdOwnAt 9 rfl | exact rdAt 10 rfl | exact rdOwnAt 10 rfl | exact rdAt 11 rfl | exact rdOwnAt 11 rfl | exact rdAt 12 rfl | exact rdOwnAt 12 rfl | exact rdAt 13 rfl | exact rdOwnAt 13 rfl | exact rdAt 14 rfl | exact rdOwnAt 14 rfl | exact rdAt 15 rfl | exact rdOwnAt 15 rfl | exact rdAt 16 rfl | exact rdOwnAt 16 rfl | exact rdAt 17 rfl | exact rdOwnAt 17 rfl | exact rdAt 18 rfl | exact rdOwnAt 18 rfl | exact rdAt 19 rfl | exact rdOwnAt 19 rfl | exact rdAt 20 rfl | exact rdOwnAt 20 rfl | exact rdAt 21 rfl | exact rdOwnAt 21 rfl | exact rdAt 22 rfl | exact rdOwnAt 22 rfl | exact rdAt 23 rfl | exact rdOwnAt 23 rfl) k rfl (by first | omega | (simp; done) | (simp; omega) | (unfold maxLen; omega) | (unfold maxLen; simp; done) | (unfold maxLen; simp; omega)) (fun ad2 => ?_)
      refine CaseB.mk (fun g => ?_) (fun g => ?_)
      · have q : hi < xs[k] := by simpa using g
        exact retw [] ⟨_, rfl, tno fun e => by have := (e.2 _ (List.getElem_mem hlt)).2; omega, rfl⟩ trivial rfl trivial (fun _ => rfl)
      have q2 : ¬ hi < xs[k] := by simpa using g
      have hw := e_succ k _ hlt (by omega)
      refine ⟨⟨k + 1, by omega, by omega, fun x hx => ?_⟩, ?_, by simp; omega⟩
      · rw [List.take_succ_eq_append_getElem hlt] at hx
        rcases List.mem_append.1 hx with hx | hx
        · exact hinv x hx
        · simp at hx; subst hx; omega
      · refine weak_mk [0] ?_ ?_ ?_ ?_ ?_ rfl rfl
        · repeat (first | exact trivial | refine ⟨⟨_, rfl, (by first | exact .of rfl | exact .lit rfl | exact .of (by first | ((exact congrArg (fun z => SV.v (Value.int .i64 z)) hw))) | exact .lit (by first | ((exact congrArg (fun z => SV.v (Value.int .i64 z)) hw)))), (by first | exact trivial | exact Nat.le_of_ble_eq_true rfl | exact small1 rfl)⟩, ?_⟩)
        · repeat (first | exact trivial | refine ⟨⟨(by first | exact .head _ | exact .tail _ (.head _) | exact .tail _ (.tail _ (.head _)) | exact .tail _ (.tail _ (.tail _ (.head _))) | exact .tail _ (.tail _ (.tail _ (.tail _ (.head _)))) | exact .tail _ (.tail _ (.tail _ (.tail _ (.tail _ (.head _))))) | exact .tail _ (.tail _ (.tail _ (.tail _ (.tail _ (.tail _ (.head _)))))) | exact .tail _ (.tail _ (.tail _ (.tail _ (.tail _ (.tail _ (.tail _ (.head _))))))) | exact .tail _ (.tail _ (.tail _ (.tail _ (.tail _ (.tail _ (.tail _ (.tail _ (.head _)))))))) | exact .tail _ (.tail _ (.tail _ (.tail _ (.tail _ (.tail _ (.tail _ (.tail _ (.tail _ (.head _)))))))))), Nat.le_of_ble_eq_true rfl⟩, ?_⟩)
        · repeat (first | exact trivial | refine ⟨⟨_, rfl, (by first | exact .of rfl | exact .lit rfl | exact .of (by first | ((exact congrArg (fun z => SV.v (Value.int .i64 z)) hw))) | exact .lit (by first | ((exact congrArg (fun z => SV.v (Value.int .i64 z)) hw)))), (by first | exact trivial | exact Nat.le_of_ble_eq_true rfl | exact small1 rfl)⟩, ?_⟩)
        · repeat (first | exact trivial | refine ⟨⟨_, rfl⟩, ?_⟩)
        · repeat (first | exact trivial | refine ⟨.inl ⟨_, rfl, (by first | rfl | ((exact congrArg (fun z => SV.v (Value.int .i64 z)) hw)))⟩, ?_⟩ | refine ⟨.inr ⟨Nat.le_of_ble_eq_true rfl, rfl, rfl, rfl, rfl⟩, ?_⟩)
    · have h3 : ¬ k ≤ 3 := by simp at g; omega
      have : ¬ xs.length ≤ 3 := by omega
      exact retw [] ⟨_, rfl, by simp [within]; omega, rfl⟩ trivial rfl trivial (fun _ => rfl)
  · have hge : xs.length ≤ k := by simpa using g
    rw [List.take_of_length_le hge] at hinv
    refine retw [] ⟨_, rfl, ?_, rfl⟩ trivial rfl trivial (fun _ => rfl)
    simp only [within, decide_eq_true_eq]
    exact ⟨fun e => ⟨by omega, hinv⟩, fun e => by have := e.1; omega⟩

set_option maxRecDepth 100000 in
theorem l6Shared_c (p : ProgH) (k : Int) (w : World) : Calls Try.prog 64 #[progV p, .int .i64 k] w (Ret w fun v L => v = .int .i64 (p.pure.shared k) ∧ L = []) := by
  have t : p.pure.sems = p.sems ∧ p.pure.groups = p.groups ∧ p.pure.barriers = p.barriers ∧ p.pure.rooms = p.rooms := ⟨rfl, rfl, rfl, rfl⟩
  refine calls2 Try.func64 rfl tabOk w _ rfl _ rfl [] trivial trivial _ _ (by decide) ?_
  refine CaseB.mk (fun k1 => ?_) (fun k1 => ?_)
  · have q1 : k = 1 := by simpa using k1
    exact retw [] ⟨by simp [Prog.shared, q1], rfl⟩ trivial rfl trivial (fun _ => rfl)
  have q1 : ¬ k = 1 := by simpa using k1
  refine CaseB.mk (fun k2 => ?_) (fun k2 => ?_)
  · have q2 : k = 2 := by simpa using k2
    refine CaseB.mk (fun _ => ?_) (fun g => by rw [k2] at g; cases g)
    exact retw [] ⟨by simp [Prog.shared, t, q2], rfl⟩ trivial rfl trivial (fun _ => rfl)
  have q2 : ¬ k = 2 := by simpa using k2
  refine CaseB.mk (fun k3 => ?_) (fun k3 => ?_)
  · have q3 : k = 3 := by simpa using k3
    exact retw [] ⟨by simp [Prog.shared, t, q3], rfl⟩ trivial rfl trivial (fun _ => rfl)
  have q3 : ¬ k = 3 := by simpa using k3
  refine CaseB.mk (fun k4 => ?_) (fun k4 => ?_)
  · have q4 : k = 4 := by simpa using k4
    exact retw [] ⟨by simp [Prog.shared, q4], rfl⟩ trivial rfl trivial (fun _ => rfl)
  have q4 : ¬ k = 4 := by simpa using k4
  refine CaseB.mk (fun k5 => ?_) (fun k5 => ?_)
  · have q5 : k = 5 := by simpa using k5
    refine CaseB.mk (fun _ => ?_) (fun g => by rw [k5] at g; cases g)
    exact retw [] ⟨by simp [Prog.shared, t, q5], rfl⟩ trivial rfl trivial (fun _ => rfl)
  have q5 : ¬ k = 5 := by simpa using k5
  refine CaseB.mk (fun k6 => ?_) (fun k6 => ?_)
  · have q6 : k = 6 := by simpa using k6
    exact retw [] ⟨by simp [Prog.shared, t, q6], rfl⟩ trivial rfl trivial (fun _ => rfl)
  have q6 : ¬ k = 6 := by simpa using k6
  refine CaseB.mk (fun k7 => ?_) (fun k7 => ?_)
  · have q7 : k = 7 := by simpa using k7
    exact retw [] ⟨by simp [Prog.shared, t, q7], rfl⟩ trivial rfl trivial (fun _ => rfl)
  have q7 : ¬ k = 7 := by simpa using k7
  exact retw [] ⟨by simp [Prog.shared, t, q1, q2, q3, q4, q5, q6, q7], rfl⟩ trivial rfl trivial (fun _ => rfl)

set_option maxRecDepth 100000 in
theorem l6Arg_c (p : ProgH) (o : Op) (w : World) (h : At w [fR (progO p)]) (h0 : 0 ≤ o.on) (h1 : o.on < p.pure.shared o.kind) :
    Calls Try.prog 65 #[progV p, .agg (cOp o).toArray] w (Tells w (p.pure.argOk o)) := by
  refine calls2 Try.func65 rfl tabOk w _ rfl _ rfl _ h ⟨rfl, rfl, trivial⟩ _ _ (by decide) ?_
  refine CaseB.mk (fun k2 => ?_) (fun k2 => ?_)
  · refine CaseB.mk (fun _ => ?_) (fun g => by rw [k2] at g; cases g)
    have q : o.kind = 2 := by simpa using k2
    have hs : o.on < (p.sems.length : Int) := by simpa [Prog.shared, q, ProgH.pure] using h1
    have hlt : o.on.toNat < p.sems.length := by omega
    have e : p.pure.sems.getD o.on.toNat 0 = p.sems[o.on.toNat] := by simp [ProgH.pure, List.getD, hlt]
    have hx : p.pure.argOk o ↔ 1 ≤ o.arg ∧ o.arg ≤ p.sems[o.on.toNat] := by rw [← e]; simp [Prog.argOk, q]
    refine draw_start tabOk (by kernel_rfl) (by kernel_rfl) (by kernel_rfl) 200 [((0, 0), .v (p.h0.val p.sems.length)), ((1, 0), .v (.int .i64 o.kind)), ((1, 1), .v (.int .i64 o.on)), ((1, 2), .v (.int .i64 o.arg))] [0] [_] ⟨⟨_, rfl, rfl, (by first | exact trivial | exact Nat.le_of_ble_eq_true rfl)⟩, ⟨_, rfl, rfl, (by first | exact trivial | exact Nat.le_of_ble_eq_true rfl)⟩, ⟨_, rfl, rfl, (by first | exact trivial | exact Nat.le_of_ble_eq_true rfl)⟩, ⟨_, rfl, rfl, (by first | exact trivial | exact Nat.le_of_ble_eq_true rfl)⟩, trivial⟩ ⟨⟨_, rfl⟩, ⟨_, rfl⟩, ⟨_, rfl⟩, ⟨_, rfl⟩, trivial⟩ ⟨rfl, trivial⟩ rfl ?_
    refine CaseB.mk (fun g => ?_) (fun g => ?_)
    · have c : 1 ≤ o.arg := by simp at g; omega
      refine d_idx (ti := tiOf tab) encInt tabOk rfl rfl rfl rfl rfl ⟨rfl, rfl⟩ (rdVia 0 rfl (.ofR (progO_sems p))) o.on.toNat (by omega) (by first | omega | (simp; done) | (simp; omega) | (unfold maxLen; omega) | (unfold maxLen; simp; done) | (unfold maxLen; simp; omega)) (fun ad => ?_)
      exact retw [] ⟨_, rfl, by rw [hx]; simp [c], rfl⟩ trivial rfl trivial (fun _ => rfl)
    · have c : ¬ 1 ≤ o.arg := by simp at g; omega
      exact retw [] ⟨_, rfl, tno fun e => c (hx.1 e).1, rfl⟩ trivial rfl trivial (fun _ => rfl)
  refine CaseB.mk (fun k3 => ?_) (fun k3 => ?_)
  · skip
    have q : o.kind = 3 := by simpa using k3
    have hs : o.on < (p.sems.length : Int) := by simpa [Prog.shared, q, ProgH.pure] using h1
    have hlt : o.on.toNat < p.sems.length := by omega
    have e : p.pure.sems.getD o.on.toNat 0 = p.sems[o.on.toNat] := by simp [ProgH.pure, List.getD, hlt]
    have hx : p.pure.argOk o ↔ 1 ≤ o.arg ∧ o.arg ≤ p.sems[o.on.toNat] := by rw [← e]; simp [Prog.argOk, q]
    refine draw_start tabOk (by kernel_rfl) (by kernel_rfl) (by kernel_rfl) 200 [((0, 0), .v (p.h0.val p.sems.length)), ((1, 0), .v (.int .i64 o.kind)), ((1, 1), .v (.int .i64 o.on)), ((1, 2), .v (.int .i64 o.arg))] [0] [_] ⟨⟨_, rfl, rfl, (by first | exact trivial | exact Nat.le_of_ble_eq_true rfl)⟩, ⟨_, rfl, rfl, (by first | exact trivial | exact Nat.le_of_ble_eq_true rfl)⟩, ⟨_, rfl, rfl, (by first | exact trivial | exact Nat.le_of_ble_eq_true rfl)⟩, ⟨_, rfl, rfl, (by first | exact trivial | exact Nat.le_of_ble_eq_true rfl)⟩, trivial⟩ ⟨⟨_, rfl⟩, ⟨_, rfl⟩, ⟨_, rfl⟩, ⟨_, rfl⟩, trivial⟩ ⟨rfl, trivial⟩ rfl ?_
    refine CaseB.mk (fun g => ?_) (fun g => ?_)
    · have c : 1 ≤ o.arg := by simp at g; omega
      refine d_idx (ti := tiOf tab) encInt tabOk rfl rfl rfl rfl rfl ⟨rfl, rfl⟩ (rdVia 0 rfl (.ofR (progO_sems p))) o.on.toNat (by omega) (by first | omega | (simp; done) | (simp; omega) | (unfold maxLen; omega) | (unfold maxLen; simp; done) | (unfold maxLen; simp; omega)) (fun ad => ?_)
      exact retw [] ⟨_, rfl, by rw [hx]; simp [c], rfl⟩ trivial rfl trivial (fun _ => rfl)
    · have c : ¬ 1 ≤ o.arg := by simp at g; omega
      exact retw [] ⟨_, rfl, tno fun e => c (hx.1 e).1, rfl⟩ trivial rfl trivial (fun _ => rfl)
  have n2 : ¬ o.kind = 2 := by simpa using k2
  have n3 : ¬ o.kind = 3 := by simpa using k3
  refine CaseB.mk (fun k5 => ?_) (fun k5 => ?_)
  · have q : o.kind = 5 := by simpa using k5
    have hx : p.pure.argOk o ↔ -9 ≤ o.arg ∧ o.arg ≤ 9 := by simp [Prog.argOk, q]
    refine CaseB.mk (fun g => ?_) (fun g => ?_)
    · have c : -9 ≤ o.arg := by simp at g; omega
      exact retw [] ⟨_, rfl, by rw [hx]; simp [c], rfl⟩ trivial rfl trivial (fun _ => rfl)
    · have c : ¬ -9 ≤ o.arg := by simp at g; omega
      exact retw [] ⟨_, rfl, tno fun e => c (hx.1 e).1, rfl⟩ trivial rfl trivial (fun _ => rfl)
  have n5 : ¬ o.kind = 5 := by simpa using k5
  refine CaseB.mk (fun k1 => ?_) (fun k1 => ?_)
  · have q : o.kind = 1 := by simpa using k1
    have hx : p.pure.argOk o ↔ isValue o.arg = true := by simp [Prog.argOk, q]
    refine CaseB.mk (fun _ => ?_) (fun g => by rw [k1] at g; cases g)
    refine stop_call _ cl72 rfl rfl rfl rfl ⟨rfl, rfl⟩ (fun A w hW => l2Value_c _ w) ?_
    rintro v L ⟨rfl, rfl⟩
    exact retw [] ⟨_, rfl, by rw [hx], rfl⟩ trivial rfl trivial (fun _ => rfl)
  have n1 : ¬ o.kind = 1 := by simpa using k1
  refine CaseB.mk (fun k4 => ?_) (fun k4 => ?_)
  · have q : o.kind = 4 := by simpa using k4
    have hx : p.pure.argOk o ↔ isValue o.arg = true := by simp [Prog.argOk, q]
    refine CaseB.mk (fun _ => ?_) (fun g => by rw [k4] at g; cases g)
    refine stop_call _ cl72 rfl rfl rfl rfl ⟨rfl, rfl⟩ (fun A w hW => l2Value_c _ w) ?_
    rintro v L ⟨rfl, rfl⟩
    exact retw [] ⟨_, rfl, by rw [hx], rfl⟩ trivial rfl trivial (fun _ => rfl)
  have n4 : ¬ o.kind = 4 := by simpa using k4
  refine CaseB.mk (fun k8 => ?_) (fun k8 => ?_)
  · have q : o.kind = 8 := by simpa using k8
    have hx : p.pure.argOk o ↔ isValue o.arg = true := by simp [Prog.argOk, q]
    refine stop_call _ cl72 rfl rfl rfl rfl ⟨rfl, rfl⟩ (fun A w hW => l2Value_c _ w) ?_
    rintro v L ⟨rfl, rfl⟩
    exact retw [] ⟨_, rfl, by rw [hx], rfl⟩ trivial rfl trivial (fun _ => rfl)
  have n8 : ¬ o.kind = 8 := by simpa using k8
  have hx : p.pure.argOk o ↔ o.arg = 0 := by simp [Prog.argOk, n1, n2, n3, n4, n5, n8]
  exact retw [] ⟨_, rfl, by rw [hx]; simp, rfl⟩ trivial rfl trivial (fun _ => rfl)

set_option maxHeartbeats 4000000 in
set_option maxRecDepth 100000 in
theorem opValidS_c (p : ProgH) (o : Op) (w : World) (h : At w [fR (progO p)]) :
    Calls Try.prog 44 #[progV p, .agg (cOp o).toArray] w (Tells w (OpOk p.pure o)) := by
  refine calls2 Try.func44 rfl tabOk w _ rfl _ rfl _ h ⟨rfl, rfl, trivial⟩ _ _ (by decide) ?_
  refine draw_start tabOk (by kernel_rfl) (by kernel_rfl) (by kernel_rfl) 200 [((0, 0), .v (p.h0.val p.sems.length)), ((0, 1), .v (p.h1.val p.groups.length)), ((0, 2), .v (p.h2.val p.barriers.length)), ((0, 3), .v (p.h3.val p.rooms.length)), ((0, 4), .v (p.h4.val p.threads.length)), ((1, 0), .v (.int .i64 o.kind)), ((1, 1), .v (.int .i64 o.on)), ((1, 2), .v (.int .i64 o.arg))] [0] [_] ⟨⟨_, rfl, rfl, (by first | exact trivial | exact Nat.le_of_ble_eq_true rfl)⟩, ⟨_, rfl, rfl, (by first | exact trivial | exact Nat.le_of_ble_eq_true rfl)⟩, ⟨_, rfl, rfl, (by first | exact trivial | exact Nat.le_of_ble_eq_true rfl)⟩, ⟨_, rfl, rfl, (by first | exact trivial | exact Nat.le_of_ble_eq_true rfl)⟩, ⟨_, rfl, rfl, (by first | exact trivial | exact Nat.le_of_ble_eq_true rfl)⟩, ⟨_, rfl, rfl, (by first | exact trivial | exact Nat.le_of_ble_eq_true rfl)⟩, ⟨_, rfl, rfl, (by first | exact trivial | exact Nat.le_of_ble_eq_true rfl)⟩, ⟨_, rfl, rfl, (by first | exact trivial | exact Nat.le_of_ble_eq_true rfl)⟩, trivial⟩ ⟨⟨_, rfl⟩, ⟨_, rfl⟩, ⟨_, rfl⟩, ⟨_, rfl⟩, ⟨_, rfl⟩, ⟨_, rfl⟩, ⟨_, rfl⟩, ⟨_, rfl⟩, trivial⟩ ⟨rfl, trivial⟩ rfl ?_
  refine d_call _ cl63 rfl rfl rfl rfl ⟨rfl, rfl⟩ (fun A w hW => l6Word_c _ w) ?_
  rintro v L ⟨rfl, rfl⟩
  refine d_bin rfl rfl rfl ⟨rfl, rfl⟩ (.bool ((wordOf o.kind).toList == (⟨#[]⟩ : ByteArray).toList)) (fun w => (eqGuard_str w)) (fun w => (eql_str w)) ?_
  refine CaseB.mk (fun g => ?_) (fun g => ?_)
  · have q := (wordOf_empty o.kind).1 g
    exact retw [] ⟨_, rfl, tno fun e => q ⟨e.1, e.2.1⟩, rfl⟩ trivial rfl trivial (fun _ => rfl)
  have q : 1 ≤ o.kind ∧ o.kind ≤ 10 := by
    refine Classical.byContradiction fun n => ?_
    rw [(wordOf_empty o.kind).2 n] at g
    cases g
  refine CaseB.mk (fun g => ?_) (fun g => ?_)
  · have c : ¬ 0 ≤ o.on := by simp at g; omega
    exact retw [] ⟨_, rfl, tno fun e => c e.2.2.1, rfl⟩ trivial rfl trivial (fun _ => rfl)
  have c0 : 0 ≤ o.on := by simp at g; omega
  refine d_call _ cl64 rfl rfl rfl rfl ⟨rfl, rfl⟩ (fun A w hW => l6Shared_c p _ w) ?_
  rintro v L ⟨rfl, rfl⟩
  refine CaseB.mk (fun g => ?_) (fun g => ?_)
  · have c : ¬ o.on < p.pure.shared o.kind := by simp at g; omega
    exact retw [] ⟨_, rfl, tno fun e => c e.2.2.2.1, rfl⟩ trivial rfl trivial (fun _ => rfl)
  have c1 : o.on < p.pure.shared o.kind := by simp at g; omega
  refine stop_call _ cl65 rfl rfl rfl rfl ⟨rfl, rfl⟩ (fun A w hW => l6Arg_c p o w ⟨hW.get 0 rfl (.refl _), trivial⟩ c0 c1) ?_
  rintro v L ⟨b, rfl, hb, rfl⟩
  exact retw [] ⟨_, rfl, by rw [hb]; simp [OpOk, q, c0, c1], rfl⟩ trivial rfl trivial (fun _ => rfl)

set_option maxHeartbeats 16000000 in
set_option maxRecDepth 100000 in
theorem progValidS_c (p : ProgH) (w : World) (h : At w [fR (progO p)]) (hs : p.sems.length ≤ 1048576 ∧ p.groups.length ≤ 1048576 ∧ p.barriers.length ≤ 1048576 ∧ p.rooms.length ≤ 1048576) :
    Calls Try.prog 13 #[progV p] w (Tells w (ProgOk p.pure)) := by
  refine calls1 Try.func13 rfl tabOk w _ rfl _ rfl _ h ⟨rfl, rfl, trivial⟩ _ (by decide) ?_
  refine stop_call _ cl43 rfl rfl rfl rfl ⟨rfl, rfl⟩ (fun A w hW => l6Numbers_c p.h0 p.sems 1 9 w ⟨hW.get 0 rfl (.ofR (progO_sems p)), trivial⟩ (by omega)) ?_
  rintro v L ⟨b0, rfl, hb0, rfl⟩
  refine CaseB.mk (fun g => ?_) (fun g => ?_)
  · exact retw [] ⟨_, rfl, tno fun e => (by have := hb0.2 e.sems; rw [this] at g; cases g), rfl⟩ trivial rfl trivial (fun _ => rfl)
  have w0 := hb0.1 (by simpa using g)
  refine stop_call _ cl43 rfl rfl rfl rfl ⟨rfl, rfl⟩ (fun A w hW => l6Numbers_c p.h1 p.groups 0 9 w ⟨hW.get 0 rfl (.ofR (progO_groups p)), trivial⟩ (by omega)) ?_
  rintro v L ⟨b1, rfl, hb1, rfl⟩
  refine CaseB.mk (fun g => ?_) (fun g => ?_)
  · exact retw [] ⟨_, rfl, tno fun e => (by have := hb1.2 e.groups; rw [this] at g; cases g), rfl⟩ trivial rfl trivial (fun _ => rfl)
  have w1 := hb1.1 (by simpa using g)
  refine stop_call _ cl43 rfl rfl rfl rfl ⟨rfl, rfl⟩ (fun A w hW => l6Numbers_c p.h2 p.barriers 1 6 w ⟨hW.get 0 rfl (.ofR (progO_barriers p)), trivial⟩ (by omega)) ?_
  rintro v L ⟨b2, rfl, hb2, rfl⟩
  refine CaseB.mk (fun g => ?_) (fun g => ?_)
  · exact retw [] ⟨_, rfl, tno fun e => (by have := hb2.2 e.barriers; rw [this] at g; cases g), rfl⟩ trivial rfl trivial (fun _ => rfl)
  have w2 := hb2.1 (by simpa using g)
  refine stop_call _ cl43 rfl rfl rfl rfl ⟨rfl, rfl⟩ (fun A w hW => l6Numbers_c p.h3 p.rooms 0 4 w ⟨hW.get 0 rfl (.ofR (progO_rooms p)), trivial⟩ (by omega)) ?_
  rintro v L ⟨b3, rfl, hb3, rfl⟩
  refine CaseB.mk (fun g => ?_) (fun g => ?_)
  · exact retw [] ⟨_, rfl, tno fun e => (by have := hb3.2 e.rooms; rw [this] at g; cases g), rfl⟩ trivial rfl trivial (fun _ => rfl)
  have w3 := hb3.1 (by simpa using g)
  have hlen : p.pure.threads.length = p.threads.length := by simp [ProgH.pure]
  refine CaseB.mk (fun g => ?_) (fun g => ?_)
  · have q : ¬ 1 ≤ p.threads.length := by have g' := of_decide_eq_true g; omega
    exact retw [] ⟨_, rfl, tno fun e => q (hlen ▸ e.n1), rfl⟩ trivial rfl trivial (fun _ => rfl)
  have n1 : 1 ≤ p.threads.length := by have g' := of_decide_eq_false g; omega
  refine CaseB.mk (fun g => ?_) (fun g => ?_)
  · have q : ¬ p.threads.length ≤ 4 := by simp at g; omega
    exact retw [] ⟨_, rfl, tno fun e => q (hlen ▸ e.n4), rfl⟩ trivial rfl trivial (fun _ => rfl)
  have n4 : p.threads.length ≤ 4 := by simp at g; omega
  have hmem : ∀ (k : Nat) (hk : k < p.threads.length), (p.threads[k]).m ∈ p.pure.threads := fun k hk => List.mem_map_of_mem (List.getElem_mem hk)
  refine LoopW.mk ⟨{ k : Nat // k ≤ p.threads.length ∧ ∀ t ∈ p.pure.threads.take k, t.length ≤ 8 ∧ ∀ o ∈ t, OpOk p.pure o },
    fun k => .mk [(1, .p 0 0), (3, .v (.int .i64 (k.1 : Int)))] 1 0 [(0, 26, 5)] [((0, 0), .v (p.h0.val p.sems.length)), ((0, 1), .v (p.h1.val p.groups.length)), ((0, 2), .v (p.h2.val p.barriers.length)), ((0, 3), .v (p.h3.val p.rooms.length)), ((0, 4), .v (p.h4.val p.threads.length))] [fR (progO p)],
    fun k => p.threads.length - k.1, ⟨0, Nat.zero_le _, by simp⟩, ?_, ?_⟩
  · refine weak_mk [0] ?_ ?_ ?_ ?_ ?_ rfl rfl
    · repeat (first | exact trivial | refine ⟨⟨_, rfl, (by first | exact .of rfl | exact .lit rfl | exact .of (by first | (rfl)) | exact .lit (by first | (rfl))), (by first | exact trivial | exact Nat.le_of_ble_eq_true rfl | exact small1 rfl)⟩, ?_⟩)
    · repeat (first | exact trivial | refine ⟨⟨(by first | exact .head _ | exact .tail _ (.head _) | exact .tail _ (.tail _ (.head _)) | exact .tail _ (.tail _ (.tail _ (.head _))) | exact .tail _ (.tail _ (.tail _ (.tail _ (.head _)))) | exact .tail _ (.tail _ (.tail _ (.tail _ (.tail _ (.head _))))) | exact .tail _ (.tail _ (.tail _ (.tail _ (.tail _ (.tail _ (.head _)))))) | exact .tail _ (.tail _ (.tail _ (.tail _ (.tail _ (.tail _ (.tail _ (.head _))))))) | exact .tail _ (.tail _ (.tail _ (.tail _ (.tail _ (.tail _ (.tail _ (.tail _ (.head _)))))))) | exact .tail _ (.tail _ (.tail _ (.tail _ (.tail _ (.tail _ (.tail _ (.tail _ (.tail _ (.head _)))))))))), Nat.le_of_ble_eq_true rfl⟩, ?_⟩)
    · repeat (first | exact trivial | refine ⟨⟨_, rfl, (by first | exact .of rfl | exact .lit rfl | exact .of (by first | (rfl)) | exact .lit (by first | (rfl))), (by first | exact trivial | exact Nat.le_of_ble_eq_true rfl | exact small1 rfl)⟩, ?_⟩)
    · repeat (first | exact trivial | refine ⟨⟨_, rfl⟩, ?_⟩)
    · repeat (first | exact trivial | refine ⟨.inl ⟨_, rfl, (by first | rfl | (rfl))⟩, ?_⟩ | refine ⟨.inr ⟨Nat.le_of_ble_eq_true rfl, rfl, rfl, rfl, rfl⟩, ?_⟩)
  rintro ⟨k, hk, hinv⟩
  refine CaseB.mk (fun g => ?_) (fun g => ?_)
  · have hlt : k < p.threads.length := by simpa using g
    have hget : p.pure.threads[k]'(by rw [hlen]; exact hlt) = (p.threads[k]).m := by simp [ProgH.pure]
    refine LoopW.mk ⟨{ j : Nat // j ≤ (p.threads[k]).m.length ∧ j ≤ 9 ∧ ∀ o ∈ (p.threads[k]).m.take j, OpOk p.pure o },
      fun j => .mk [(1, .p 0 0), (3, .v (.int .i64 (k : Int))), (4, .v (.int .i64 (j.1 : Int)))] 1 0 [(0, 26, 5)] [((0, 0), .v (p.h0.val p.sems.length)), ((0, 1), .v (p.h1.val p.groups.length)), ((0, 2), .v (p.h2.val p.barriers.length)), ((0, 3), .v (p.h3.val p.rooms.length)), ((0, 4), .v (p.h4.val p.threads.length))] [fR (progO p)],
      fun j => (p.threads[k]).m.length - j.1, ⟨0, Nat.zero_le _, by omega, by simp⟩, ?_, ?_⟩
    · refine weak_mk [0] ?_ ?_ ?_ ?_ ?_ rfl rfl
      · repeat (first | exact trivial | refine ⟨⟨_, rfl, (by first | exact .of rfl | exact .lit rfl | exact .of (by first | (rfl)) | exact .lit (by first | (rfl))), (by first | exact trivial | exact Nat.le_of_ble_eq_true rfl | exact small1 rfl)⟩, ?_⟩)
      · repeat (first | exact trivial | refine ⟨⟨(by first | exact .head _ | exact .tail _ (.head _) | exact .tail _ (.tail _ (.head _)) | exact .tail _ (.tail _ (.tail _ (.head _))) | exact .tail _ (.tail _ (.tail _ (.tail _ (.head _)))) | exact .tail _ (.tail _ (.tail _ (.tail _ (.tail _ (.head _))))) | exact .tail _ (.tail _ (.tail _ (.tail _ (.tail _ (.tail _ (.head _)))))) | exact .tail _ (.tail _ (.tail _ (.tail _ (.tail _ (.tail _ (.tail _ (.head _))))))) | exact .tail _ (.tail _ (.tail _ (.tail _ (.tail _ (.tail _ (.tail _ (.tail _ (.head _)))))))) | exact .tail _ (.tail _ (.tail _ (.tail _ (.tail _ (.tail _ (.tail _ (.tail _ (.tail _ (.head _)))))))))), Nat.le_of_ble_eq_true rfl⟩, ?_⟩)
      · repeat (first | exact trivial | refine ⟨⟨_, rfl, (by first | exact .of rfl | exact .lit rfl | exact .of (by first | (rfl)) | exact .lit (by first | (rfl))), (by first | exact trivial | exact Nat.le_of_ble_eq_true rfl | exact small1 rfl)⟩, ?_⟩)
      · repeat (first | exact trivial | refine ⟨⟨_, rfl⟩, ?_⟩)
      · repeat (first | exact trivial | refine ⟨.inl ⟨_, rfl, (by first | rfl | (rfl))⟩, ?_⟩ | refine ⟨.inr ⟨Nat.le_of_ble_eq_true rfl, rfl, rfl, rfl, rfl⟩, ?_⟩)
    rintro ⟨j, hj, h9, hinv2⟩
    refine stop_idx encOpSH tabOk rfl rfl rfl rfl rfl ⟨rfl, rfl⟩ (rdVia 0 rfl (.trans (.R_R (progO_threads p)) (.ofR nest_h))) k rfl (by first | omega | (simp; done) | (simp; omega) | (unfold maxLen; omega) | (unfold maxLen; simp; done) | (unfold maxLen; simp; omega)) (fun ad => ?_)
    have hend : ((p.threads[k]).m.length ≤ 8 → (p.threads[k]).m.length ≤ j) → (p.threads[k]).m.length ≤ 8 → ∀ t ∈ p.pure.threads.take (k + 1), t.length ≤ 8 ∧ ∀ o ∈ t, OpOk p.pure o := fun hge2 n8 t ht => by
      rw [List.take_succ_eq_append_getElem (by rw [hlen]; exact hlt)] at ht
      rcases List.mem_append.1 ht with ht | ht
      · exact hinv t ht
      · simp only [List.mem_singleton] at ht
        rw [hget] at ht
        subst ht
        exact ⟨n8, by rw [List.take_of_length_le (hge2 n8)] at hinv2; exact hinv2⟩
    have hw := e_succ k _ hlt (by omega)
    refine CaseB.mk (fun g => ?_) (fun g => ?_)
    · have hlj : j < (p.threads[k]).m.length := by simpa using g
      refine CaseB.mk (fun g => ?_) (fun g => ?_)
      · have h8 : j ≤ 8 := by simp at g; omega
        refine draw_start tabOk (by kernel_rfl) (by kernel_rfl) (by kernel_rfl) 200 [((0, 0), .v (p.h0.val p.sems.length)), ((0, 1), .v (p.h1.val p.groups.length)), ((0, 2), .v (p.h2.val p.barriers.length)), ((0, 3), .v (p.h3.val p.rooms.length)), ((0, 4), .v (p.h4.val p.threads.length))] [0] [_] ⟨⟨_, rfl, rfl, (by first | exact trivial | exact Nat.le_of_ble_eq_true rfl)⟩, ⟨_, rfl, rfl, (by first | exact trivial | exact Nat.le_of_ble_eq_true rfl)⟩, ⟨_, rfl, rfl, (by first | exact trivial | exact Nat.le_of_ble_eq_true rfl)⟩, ⟨_, rfl, rfl, (by first | exact trivial | exact Nat.le_of_ble_eq_true rfl)⟩, ⟨_, rfl, rfl, (by first | exact trivial | exact Nat.le_of_ble_eq_true rfl)⟩, trivial⟩ ⟨⟨_, rfl⟩, ⟨_, rfl⟩, ⟨_, rfl⟩, ⟨_, rfl⟩, ⟨_, rfl⟩, trivial⟩ ⟨rfl, trivial⟩ rfl ?_
        refine d_idx (ti := tiOf tab) encOpSH tabOk rfl rfl rfl rfl rfl ⟨rfl, rfl⟩ (rdVia 0 rfl (.trans (.R_R (progO_threads p)) (.ofR nest_h))) k rfl (by first | omega | (simp; done) | (simp; omega) | (unfold maxLen; omega) | (unfold maxLen; simp; done) | (unfold maxLen; simp; omega)) (fun ad3 => ?_)
        refine d_idx (ti := tiOf tab) encOp tabOk rfl rfl rfl rfl rfl ⟨rfl, rfl⟩ (rdVia 0 rfl (.trans (.R_R (progO_threads p)) (.ofR (threadsO_0 _ _ k hlt)))) j rfl (by first | omega | (simp; done) | (simp; omega) | (unfold maxLen; omega) | (unfold maxLen; simp; done) | (unfold maxLen; simp; omega)) (fun ad2 => ?_)
        refine d_call _ cl44 rfl rfl rfl rfl ⟨rfl, rfl⟩ (fun A w hW => opValidS_c p _ w ⟨hW.get 0 rfl (.refl _), trivial⟩) ?_
        rintro v L ⟨b, rfl, hb, rfl⟩
        refine CaseB.mk (fun g => ?_) (fun g => ?_)
        · exact retw [] ⟨_, rfl, tno fun e => (by have := hb.2 ((e.ops _ (hmem k hlt)).2 _ (List.getElem_mem hlj)); rw [this] at g; cases g), rfl⟩ trivial rfl trivial (fun _ => rfl)
        have hw := e_succ j 9 (by omega) (by omega)
        refine ⟨⟨j + 1, by omega, by omega, fun o ho => ?_⟩, ?_, by simp; omega⟩
        · rw [List.take_succ_eq_append_getElem hlj] at ho
          rcases List.mem_append.1 ho with ho | ho
          · exact hinv2 o ho
          · simp at ho; subst ho; exact hb.1 (by simpa using g)
        · refine weak_mk [0] ?_ ?_ ?_ ?_ ?_ rfl rfl
          · repeat (first | exact trivial | refine ⟨⟨_, rfl, (by first | exact .of rfl | exact .lit rfl | exact .of (by first | ((exact congrArg (fun z => SV.v (Value.int .i64 z)) hw))) | exact .lit (by first | ((exact congrArg (fun z => SV.v (Value.int .i64 z)) hw)))), (by first | exact trivial | exact Nat.le_of_ble_eq_true rfl | exact small1 rfl)⟩, ?_⟩)
          · repeat (first | exact trivial | refine ⟨⟨(by first | exact .head _ | exact .tail _ (.head _) | exact .tail _ (.tail _ (.head _)) | exact .tail _ (.tail _ (.tail _ (.head _))) | exact .tail _ (.tail _ (.tail _ (.tail _ (.head _)))) | exact .tail _ (.tail _ (.tail _ (.tail _ (.tail _ (.head _))))) | exact .tail _ (.tail _ (.tail _ (.tail _ (.tail _ (.tail _ (.head _)))))) | exact .tail _ (.tail _ (.tail _ (.tail _ (.tail _ (.tail _ (.tail _ (.head _))))))) | exact .tail _ (.tail _ (.tail _ (.tail _ (.tail _ (.tail _ (.tail _ (.tail _ (.head _)))))))) | exact .tail _ (.tail _ (.tail _ (.tail _ (.tail _ (.tail _ (.tail _ (.tail _ (.tail _ (.head _)))))))))), Nat.le_of_ble_eq_true rfl⟩, ?_⟩)
          · repeat (first | exact trivial | refine ⟨⟨_, rfl, (by first | exact .of rfl | exact .lit rfl | exact .of (by first | ((exact congrArg (fun z => SV.v (Value.int .i64 z)) hw))) | exact .lit (by first | ((exact congrArg (fun z => SV.v (Value.int .i64 z)) hw)))), (by first | exact trivial | exact Nat.le_of_ble_eq_true rfl | exact small1 rfl)⟩, ?_⟩)
          · repeat (first | exact trivial | refine ⟨⟨_, rfl⟩, ?_⟩)
          · repeat (first | exact trivial | refine ⟨.inl ⟨_, rfl, (by first | rfl | ((exact congrArg (fun z => SV.v (Value.int .i64 z)) hw)))⟩, ?_⟩ | refine ⟨.inr ⟨Nat.le_of_ble_eq_true rfl, rfl, rfl, rfl, rfl⟩, ?_⟩)
      · have h8 : ¬ j ≤ 8 := by simp at g; omega
        refine stop_idx encOpSH tabOk rfl rfl rfl rfl rfl ⟨rfl, rfl⟩ (rdVia 0 rfl (.trans (.R_R (progO_threads p)) (.ofR nest_h))) k rfl (by first | omega | (simp; done) | (simp; omega) | (unfold maxLen; omega) | (unfold maxLen; simp; done) | (unfold maxLen; simp; omega)) (fun ad4 => ?_)
        refine CaseB.mk (fun g => ?_) (fun g => by simp at g; omega)
        have q : ¬ (p.threads[k]).m.length ≤ 8 := by omega
        exact retw [] ⟨_, rfl, tno fun e => q (e.ops _ (hmem k hlt)).1, rfl⟩ trivial rfl trivial (fun _ => rfl)
    have hge2 : (p.threads[k]).m.length ≤ j := by simpa using g
    refine stop_idx encOpSH tabOk rfl rfl rfl rfl rfl ⟨rfl, rfl⟩ (rdVia 0 rfl (.trans (.R_R (progO_threads p)) (.ofR nest_h))) k rfl (by first | omega | (simp; done) | (simp; omega) | (unfold maxLen; omega) | (unfold maxLen; simp; done) | (unfold maxLen; simp; omega)) (fun ad4 => ?_)
    refine CaseB.mk (fun g => ?_) (fun g => ?_)
    · have q : ¬ (p.threads[k]).m.length ≤ 8 := by simp at g; omega
      exact retw [] ⟨_, rfl, tno fun e => q (e.ops _ (hmem k hlt)).1, rfl⟩ trivial rfl trivial (fun _ => rfl)
    have n8 : (p.threads[k]).m.length ≤ 8 := by simp at g; omega
    refine ⟨⟨k + 1, by omega, hend (fun _ => hge2) n8⟩, ?_, by simp; omega⟩
    refine weak_mk [0] ?_ ?_ ?_ ?_ ?_ rfl rfl
    · repeat (first | exact trivial | refine ⟨⟨_, rfl, (by first | exact .of rfl | exact .lit rfl | exact .of (by first | ((exact congrArg (fun z => SV.v (Value.int .i64 z)) hw))) | exact .lit (by first | ((exact congrArg (fun z => SV.v (Value.int .i64 z)) hw)))), (by first | exact trivial | exact Nat.le_of_ble_eq_true rfl | exact small1 rfl)⟩, ?_⟩)
    · repeat (first | exact trivial | refine ⟨⟨(by first | exact .head _ | exact .tail _ (.head _) | exact .tail _ (.tail _ (.head _)) | exact .tail _ (.tail _ (.tail _ (.head _))) | exact .tail _ (.tail _ (.tail _ (.tail _ (.head _)))) | exact .tail _ (.tail _ (.tail _ (.tail _ (.tail _ (.head _))))) | exact .tail _ (.tail _ (.tail _ (.tail _ (.tail _ (.tail _ (.head _)))))) | exact .tail _ (.tail _ (.tail _ (.tail _ (.tail _ (.tail _ (.tail _ (.head _))))))) | exact .tail _ (.tail _ (.tail _ (.tail _ (.tail _ (.tail _ (.tail _ (.tail _ (.head _)))))))) | exact .tail _ (.tail _ (.tail _ (.tail _ (.tail _ (.tail _ (.tail _ (.tail _ (.tail _ (.head _)))))))))), Nat.le_of_ble_eq_true rfl⟩, ?_⟩)
    · repeat (first | exact trivial | refine ⟨⟨_, rfl, (by first | exact .of rfl | exact .lit rfl | exact .of (by first | ((exact congrArg (fun z => SV.v (Value.int .i64 z)) hw))) | exact .lit (by first | ((exact congrArg (fun z => SV.v (Value.int .i64 z)) hw)))), (by first | exact trivial | exact Nat.le_of_ble_eq_true rfl | exact small1 rfl)⟩, ?_⟩)
    · repeat (first | exact trivial | refine ⟨⟨_, rfl⟩, ?_⟩)
    · repeat (first | exact trivial | refine ⟨.inl ⟨_, rfl, (by first | rfl | ((exact congrArg (fun z => SV.v (Value.int .i64 z)) hw)))⟩, ?_⟩ | refine ⟨.inr ⟨Nat.le_of_ble_eq_true rfl, rfl, rfl, rfl, rfl⟩, ?_⟩)
  have hge : p.threads.length ≤ k := by simpa using g
  refine retw [] ⟨_, rfl, tyes ⟨w0, w1, w2, w3, by rw [hlen]; exact n1, by rw [hlen]; exact n4, fun t ht => ?_⟩, rfl⟩ trivial rfl trivial (fun _ => rfl)
  rw [List.take_of_length_le (by rw [hlen]; exact hge)] at hinv
  exact hinv t ht

end Go.Proofs.Ytjkkoonennpceaa

namespace Go.Proofs.Ytjkkoonennpceaa

open Go Go.Sx Go.RowKit

def OpS.small20 (m : List Op) : Prop := m.length ≤ 1048576

end Go.Proofs.Ytjkkoonennpceaa

namespace Go.Proofs.Ytjkkoonennpceaa

open Go Go.Sx Go.RowKit

def Prog.small20 (s : Prog) : Prop := s.sems.length ≤ 1048576 ∧ s.groups.length ≤ 1048576 ∧ s.barriers.length ≤ 1048576 ∧ s.rooms.length ≤ 1048576 ∧ allS OpS.small20 s.threads

end Go.Proofs.Ytjkkoonennpceaa

namespace Go.Proofs.Ytjkkoonennpceaa

open Go Go.Sx Go.RowKit

def Sem.small20 (m : Sem) : Prop := m.queue.length ≤ 1048576

end Go.Proofs.Ytjkkoonennpceaa

namespace Go.Proofs.Ytjkkoonennpceaa

open Go Go.Sx Go.RowKit

def Once.small20 (m : Once) : Prop := m.waits.length ≤ 1048576

end Go.Proofs.Ytjkkoonennpceaa

namespace Go.Proofs.Ytjkkoonennpceaa

open Go Go.Sx Go.RowKit

def Group.small20 (m : Group) : Prop := m.waits.length ≤ 1048576

end Go.Proofs.Ytjkkoonennpceaa

namespace Go.Proofs.Ytjkkoonennpceaa

open Go Go.Sx Go.RowKit

def Barrier.small20 (m : Barrier) : Prop := m.waits.length ≤ 1048576

end Go.Proofs.Ytjkkoonennpceaa

namespace Go.Proofs.Ytjkkoonennpceaa

open Go Go.Sx Go.RowKit

def Chan.small20 (m : Chan) : Prop := m.items.length ≤ 1048576 ∧ m.senders.length ≤ 1048576 ∧ m.getters.length ≤ 1048576

end Go.Proofs.Ytjkkoonennpceaa

namespace Go.Proofs.Ytjkkoonennpceaa

open Go Go.Sx Go.RowKit

def State.small20 (s : State) : Prop := s.places.length ≤ 1048576 ∧ s.status.length ≤ 1048576 ∧ allS Sem.small20 s.sems ∧ allS Once.small20 s.onces ∧ allS Group.small20 s.groups ∧ allS Barrier.small20 s.barriers ∧ allS Chan.small20 s.chans ∧ s.said.length ≤ 1048576

end Go.Proofs.Ytjkkoonennpceaa

namespace Go.Proofs.Ytjkkoonennpceaa

open Go Go.Sx Go.RowKit

set_option maxHeartbeats 16000000 in
set_option maxRecDepth 100000 in
theorem progValid_c (p : ProgH) (w : World) (h : At w [fR (progO p)]) (hs : p.sems.length ≤ 1048576 ∧ p.groups.length ≤ 1048576 ∧ p.barriers.length ≤ 1048576 ∧ p.rooms.length ≤ 1048576) :
    Calls Try.prog 8 #[progV p] w (Tells w (ProgOk p.pure)) := by
  refine calls1 Try.func8 rfl tabOk w _ rfl _ rfl _ h ⟨rfl, rfl, trivial⟩ _ (by decide) ?_
  refine stop_call _ cl29 rfl rfl rfl rfl ⟨rfl, rfl⟩ (fun A w hW => within_c p.h0 p.sems 1 9 w ⟨hW.get 0 rfl (.ofR (progO_sems p)), trivial⟩ (by omega)) ?_
  rintro v L ⟨b0, rfl, hb0, rfl⟩
  refine CaseB.mk (fun g => ?_) (fun g => ?_)
  · exact retw [] ⟨_, rfl, tno fun e => (by have := hb0.2 e.sems; rw [this] at g; cases g), rfl⟩ trivial rfl trivial (fun _ => rfl)
  have w0 := hb0.1 (by simpa using g)
  refine stop_call _ cl29 rfl rfl rfl rfl ⟨rfl, rfl⟩ (fun A w hW => within_c p.h1 p.groups 0 9 w ⟨hW.get 0 rfl (.ofR (progO_groups p)), trivial⟩ (by omega)) ?_
  rintro v L ⟨b1, rfl, hb1, rfl⟩
  refine CaseB.mk (fun g => ?_) (fun g => ?_)
  · exact retw [] ⟨_, rfl, tno fun e => (by have := hb1.2 e.groups; rw [this] at g; cases g), rfl⟩ trivial rfl trivial (fun _ => rfl)
  have w1 := hb1.1 (by simpa using g)
  refine stop_call _ cl29 rfl rfl rfl rfl ⟨rfl, rfl⟩ (fun A w hW => within_c p.h2 p.barriers 1 6 w ⟨hW.get 0 rfl (.ofR (progO_barriers p)), trivial⟩ (by omega)) ?_
  rintro v L ⟨b2, rfl, hb2, rfl⟩
  refine CaseB.mk (fun g => ?_) (fun g => ?_)
  · exact retw [] ⟨_, rfl, tno fun e => (by have := hb2.2 e.barriers; rw [this] at g; cases g), rfl⟩ trivial rfl trivial (fun _ => rfl)
  have w2 := hb2.1 (by simpa using g)
  refine stop_call _ cl29 rfl rfl rfl rfl ⟨rfl, rfl⟩ (fun A w hW => within_c p.h3 p.rooms 0 4 w ⟨hW.get 0 rfl (.ofR (progO_rooms p)), trivial⟩ (by omega)) ?_
  rintro v L ⟨b3, rfl, hb3, rfl⟩
  refine CaseB.mk (fun g => ?_) (fun g => ?_)
  · exact retw [] ⟨_, rfl, tno fun e => (by have := hb3.2 e.rooms; rw [this] at g; cases g), rfl⟩ trivial rfl trivial (fun _ => rfl)
  have w3 := hb3.1 (by simpa using g)
  have hlen : p.pure.threads.length = p.threads.length := by simp [ProgH.pure]
  refine CaseB.mk (fun g => ?_) (fun g => ?_)
  · have q : ¬ 1 ≤ p.threads.length := by have g' := of_decide_eq_true g; omega
    exact retw [] ⟨_, rfl, tno fun e => q (hlen ▸ e.n1), rfl⟩ trivial rfl trivial (fun _ => rfl)
  have n1 : 1 ≤ p.threads.length := by have g' := of_decide_eq_false g; omega
  refine CaseB.mk (fun g => ?_) (fun g => ?_)
  · have q : ¬ p.threads.length ≤ 4 := by simp at g; omega
    exact retw [] ⟨_, rfl, tno fun e => q (hlen ▸ e.n4), rfl⟩ trivial rfl trivial (fun _ => rfl)
  have n4 : p.threads.length ≤ 4 := by simp at g; omega
  have hmem : ∀ (k : Nat) (hk : k < p.threads.length), (p.threads[k]).m ∈ p.pure.threads := fun k hk => List.mem_map_of_mem (List.getElem_mem hk)
  refine LoopW.mk ⟨{ k : Nat // k ≤ p.threads.length ∧ ∀ t ∈ p.pure.threads.take k, t.length ≤ 8 ∧ ∀ o ∈ t, OpOk p.pure o },
    fun k => .mk [(1, .p 0 0), (42, .v (p.h4.val p.threads.length)), (43, .v (.int .i64 (p.threads.length : Int))), (44, .v (.int .i64 (k.1 : Int)))] 1 0 [(0, 26, 5)] [((0, 0), .v (p.h0.val p.sems.length)), ((0, 1), .v (p.h1.val p.groups.length)), ((0, 2), .v (p.h2.val p.barriers.length)), ((0, 3), .v (p.h3.val p.rooms.length)), ((0, 4), .v (p.h4.val p.threads.length))] [fR (progO p)],
    fun k => p.threads.length - k.1, ⟨0, Nat.zero_le _, by simp⟩, ?_, ?_⟩
  · refine weak_mk [0] ?_ ?_ ?_ ?_ ?_ rfl rfl
    · repeat (first | exact trivial | refine ⟨⟨_, rfl, (by first | exact .of rfl | exact .lit rfl | exact .of (by first | (rfl)) | exact .lit (by first | (rfl))), (by first | exact trivial | exact Nat.le_of_ble_eq_true rfl | exact small1 rfl)⟩, ?_⟩)
    · repeat (first | exact trivial | refine ⟨⟨(by first | exact .head _ | exact .tail _ (.head _) | exact .tail _ (.tail _ (.head _)) | exact .tail _ (.tail _ (.tail _ (.head _))) | exact .tail _ (.tail _ (.tail _ (.tail _ (.head _)))) | exact .tail _ (.tail _ (.tail _ (.tail _ (.tail _ (.head _))))) | exact .tail _ (.tail _ (.tail _ (.tail _ (.tail _ (.tail _ (.head _)))))) | exact .tail _ (.tail _ (.tail _ (.tail _ (.tail _ (.tail _ (.tail _ (.head _))))))) | exact .tail _ (.tail _ (.tail _ (.tail _ (.tail _ (.tail _ (.tail _ (.tail _ (.head _)))))))) | exact .tail _ (.tail _ (.tail _ (.tail _ (.tail _ (.tail _ (.tail _ (.tail _ (.tail _ (.head _)))))))))), Nat.le_of_ble_eq_true rfl⟩, ?_⟩)
    · repeat (first | exact trivial | refine ⟨⟨_, rfl, (by first | exact .of rfl | exact .lit rfl | exact .of (by first | (rfl)) | exact .lit (by first | (rfl))), (by first | exact trivial | exact Nat.le_of_ble_eq_true rfl | exact small1 rfl)⟩, ?_⟩)
    · repeat (first | exact trivial | refine ⟨⟨_, rfl⟩, ?_⟩)
    · repeat (first | exact trivial | refine ⟨.inl ⟨_, rfl, (by first | rfl | (rfl))⟩, ?_⟩ | refine ⟨.inr ⟨Nat.le_of_ble_eq_true rfl, rfl, rfl, rfl, rfl⟩, ?_⟩)
  rintro ⟨k, hk, hinv⟩
  refine CaseB.mk (fun g => ?_) (fun g => ?_)
  · have hlt : k < p.threads.length := by simpa using g
    have hget : p.pure.threads[k]'(by rw [hlen]; exact hlt) = (p.threads[k]).m := by simp [ProgH.pure]
    refine stop_idx encOpSH tabOk rfl rfl rfl rfl rfl ⟨rfl, rfl⟩ (rdVia 0 rfl (.trans (.R_R (progO_threads p)) (.ofR nest_h))) k rfl (by first | omega | (simp; done) | (simp; omega) | (unfold maxLen; omega) | (unfold maxLen; simp; done) | (unfold maxLen; simp; omega)) (fun ad => ?_)
    refine CaseB.mk (fun g => ?_) (fun g => ?_)
    · have q : ¬ (p.threads[k]).m.length ≤ 8 := by simp at g; omega
      exact retw [] ⟨_, rfl, tno fun e => q (e.ops _ (hmem k hlt)).1, rfl⟩ trivial rfl trivial (fun _ => rfl)
    have n8 : (p.threads[k]).m.length ≤ 8 := by simp at g; omega
    refine LoopW.mk ⟨{ j : Nat // j ≤ (p.threads[k]).m.length ∧ ∀ o ∈ (p.threads[k]).m.take j, OpOk p.pure o },
      fun j => .mk [(1, .p 0 0), (42, .v (p.h4.val p.threads.length)), (43, .v (.int .i64 (p.threads.length : Int))), (44, .v (.int .i64 (k : Int))), (51, .v ((p.threads[k]).q.val (p.threads[k]).m.length)), (52, .v (.int .i64 ((p.threads[k]).m.length : Int))), (53, .v (.int .i64 (j.1 : Int)))] 1 0 [(0, 26, 5)] [((0, 0), .v (p.h0.val p.sems.length)), ((0, 1), .v (p.h1.val p.groups.length)), ((0, 2), .v (p.h2.val p.barriers.length)), ((0, 3), .v (p.h3.val p.rooms.length)), ((0, 4), .v (p.h4.val p.threads.length))] [fR (progO p)],
      fun j => (p.threads[k]).m.length - j.1, ⟨0, Nat.zero_le _, by simp⟩, ?_, ?_⟩
    · refine weak_mk [0] ?_ ?_ ?_ ?_ ?_ rfl rfl
      · repeat (first | exact trivial | refine ⟨⟨_, rfl, (by first | exact .of rfl | exact .lit rfl | exact .of (by first | (rfl)) | exact .lit (by first | (rfl))), (by first | exact trivial | exact Nat.le_of_ble_eq_true rfl | exact small1 rfl)⟩, ?_⟩)
      · repeat (first | exact trivial | refine ⟨⟨(by first | exact .head _ | exact .tail _ (.head _) | exact .tail _ (.tail _ (.head _)) | exact .tail _ (.tail _ (.tail _ (.head _))) | exact .tail _ (.tail _ (.tail _ (.tail _ (.head _)))) | exact .tail _ (.tail _ (.tail _ (.tail _ (.tail _ (.head _))))) | exact .tail _ (.tail _ (.tail _ (.tail _ (.tail _ (.tail _ (.head _)))))) | exact .tail _ (.tail _ (.tail _ (.tail _ (.tail _ (.tail _ (.tail _ (.head _))))))) | exact .tail _ (.tail _ (.tail _ (.tail _ (.tail _ (.tail _ (.tail _ (.tail _ (.head _)))))))) | exact .tail _ (.tail _ (.tail _ (.tail _ (.tail _ (.tail _ (.tail _ (.tail _ (.tail _ (.head _)))))))))), Nat.le_of_ble_eq_true rfl⟩, ?_⟩)
      · repeat (first | exact trivial | refine ⟨⟨_, rfl, (by first | exact .of rfl | exact .lit rfl | exact .of (by first | (rfl)) | exact .lit (by first | (rfl))), (by first | exact trivial | exact Nat.le_of_ble_eq_true rfl | exact small1 rfl)⟩, ?_⟩)
      · repeat (first | exact trivial | refine ⟨⟨_, rfl⟩, ?_⟩)
      · repeat (first | exact trivial | refine ⟨.inl ⟨_, rfl, (by first | rfl | (rfl))⟩, ?_⟩ | refine ⟨.inr ⟨Nat.le_of_ble_eq_true rfl, rfl, rfl, rfl, rfl⟩, ?_⟩)
    rintro ⟨j, hj, hinv2⟩
    refine CaseB.mk (fun g => ?_) (fun g => ?_)
    · have hlj : j < (p.threads[k]).m.length := by simpa using g
      refine stop_idx encOp tabOk rfl rfl rfl rfl rfl ⟨rfl, rfl⟩ (rdVia 0 rfl (.trans (.R_R (progO_threads p)) (.ofR (threadsO_0 _ _ k hlt)))) j rfl (by first | omega | (simp; done) | (simp; omega) | (unfold maxLen; omega) | (unfold maxLen; simp; done) | (unfold maxLen; simp; omega)) (fun ad2 => ?_)
      refine stop_call _ cl30 rfl rfl rfl rfl ⟨rfl, rfl⟩ (fun A w hW => opValid_c p _ w ⟨hW.get 0 rfl (.refl _), trivial⟩) ?_
      rintro v L ⟨b, rfl, hb, rfl⟩
      refine CaseB.mk (fun g => ?_) (fun g => ?_)
      · exact retw [] ⟨_, rfl, tno fun e => (by have := hb.2 ((e.ops _ (hmem k hlt)).2 _ (List.getElem_mem hlj)); rw [this] at g; cases g), rfl⟩ trivial rfl trivial (fun _ => rfl)
      have hw := e_succ j _ hlj (by omega)
      refine ⟨⟨j + 1, by omega, fun o ho => ?_⟩, ?_, by simp; omega⟩
      · rw [List.take_succ_eq_append_getElem hlj] at ho
        rcases List.mem_append.1 ho with ho | ho
        · exact hinv2 o ho
        · simp at ho; subst ho; exact hb.1 (by simpa using g)
      · refine weak_mk [0] ?_ ?_ ?_ ?_ ?_ rfl rfl
        · repeat (first | exact trivial | refine ⟨⟨_, rfl, (by first | exact .of rfl | exact .lit rfl | exact .of (by first | ((exact congrArg (fun z => SV.v (Value.int .i64 z)) hw))) | exact .lit (by first | ((exact congrArg (fun z => SV.v (Value.int .i64 z)) hw)))), (by first | exact trivial | exact Nat.le_of_ble_eq_true rfl | exact small1 rfl)⟩, ?_⟩)
        · repeat (first | exact trivial | refine ⟨⟨(by first | exact .head _ | exact .tail _ (.head _) | exact .tail _ (.tail _ (.head _)) | exact .tail _ (.tail _ (.tail _ (.head _))) | exact .tail _ (.tail _ (.tail _ (.tail _ (.head _)))) | exact .tail _ (.tail _ (.tail _ (.tail _ (.tail _ (.head _))))) | exact .tail _ (.tail _ (.tail _ (.tail _ (.tail _ (.tail _ (.head _)))))) | exact .tail _ (.tail _ (.tail _ (.tail _ (.tail _ (.tail _ (.tail _ (.head _))))))) | exact .tail _ (.tail _ (.tail _ (.tail _ (.tail _ (.tail _ (.tail _ (.tail _ (.head _)))))))) | exact .tail _ (.tail _ (.tail _ (.tail _ (.tail _ (.tail _ (.tail _ (.tail _ (.tail _ (.head _)))))))))), Nat.le_of_ble_eq_true rfl⟩, ?_⟩)
        · repeat (first | exact trivial | refine ⟨⟨_, rfl, (by first | exact .of rfl | exact .lit rfl | exact .of (by first | ((exact congrArg (fun z => SV.v (Value.int .i64 z)) hw))) | exact .lit (by first | ((exact congrArg (fun z => SV.v (Value.int .i64 z)) hw)))), (by first | exact trivial | exact Nat.le_of_ble_eq_true rfl | exact small1 rfl)⟩, ?_⟩)
        · repeat (first | exact trivial | refine ⟨⟨_, rfl⟩, ?_⟩)
        · repeat (first | exact trivial | refine ⟨.inl ⟨_, rfl, (by first | rfl | ((exact congrArg (fun z => SV.v (Value.int .i64 z)) hw)))⟩, ?_⟩ | refine ⟨.inr ⟨Nat.le_of_ble_eq_true rfl, rfl, rfl, rfl, rfl⟩, ?_⟩)
    have hge2 : (p.threads[k]).m.length ≤ j := by simpa using g
    have hw := e_succ k _ hlt (by omega)
    refine ⟨⟨k + 1, by omega, fun t ht => ?_⟩, ?_, by simp; omega⟩
    · rw [List.take_succ_eq_append_getElem (by rw [hlen]; exact hlt)] at ht
      rcases List.mem_append.1 ht with ht | ht
      · exact hinv t ht
      · simp only [List.mem_singleton] at ht
        rw [hget] at ht
        subst ht
        exact ⟨n8, by rw [List.take_of_length_le hge2] at hinv2; exact hinv2⟩
    · refine weak_mk [0] ?_ ?_ ?_ ?_ ?_ rfl rfl
      · repeat (first | exact trivial | refine ⟨⟨_, rfl, (by first | exact .of rfl | exact .lit rfl | exact .of (by first | ((exact congrArg (fun z => SV.v (Value.int .i64 z)) hw))) | exact .lit (by first | ((exact congrArg (fun z => SV.v (Value.int .i64 z)) hw)))), (by first | exact trivial | exact Nat.le_of_ble_eq_true rfl | exact small1 rfl)⟩, ?_⟩)
      · repeat (first | exact trivial | refine ⟨⟨(by first | exact .head _ | exact .tail _ (.head _) | exact .tail _ (.tail _ (.head _)) | exact .tail _ (.tail _ (.tail _ (.head _))) | exact .tail _ (.tail _ (.tail _ (.tail _ (.head _)))) | exact .tail _ (.tail _ (.tail _ (.tail _ (.tail _ (.head _))))) | exact .tail _ (.tail _ (.tail _ (.tail _ (.tail _ (.tail _ (.head _)))))) | exact .tail _ (.tail _ (.tail _ (.tail _ (.tail _ (.tail _ (.tail _ (.head _))))))) | exact .tail _ (.tail _ (.tail _ (.tail _ (.tail _ (.tail _ (.tail _ (.tail _ (.head _)))))))) | exact .tail _ (.tail _ (.tail _ (.tail _ (.tail _ (.tail _ (.tail _ (.tail _ (.tail _ (.head _)))))))))), Nat.le_of_ble_eq_true rfl⟩, ?_⟩)
      · repeat (first | exact trivial | refine ⟨⟨_, rfl, (by first | exact .of rfl | exact .lit rfl | exact .of (by first | ((exact congrArg (fun z => SV.v (Value.int .i64 z)) hw))) | exact .lit (by first | ((exact congrArg (fun z => SV.v (Value.int .i64 z)) hw)))), (by first | exact trivial | exact Nat.le_of_ble_eq_true rfl | exact small1 rfl)⟩, ?_⟩)
      · repeat (first | exact trivial | refine ⟨⟨_, rfl⟩, ?_⟩)
      · repeat (first | exact trivial | refine ⟨.inl ⟨_, rfl, (by first | rfl | ((exact congrArg (fun z => SV.v (Value.int .i64 z)) hw)))⟩, ?_⟩ | refine ⟨.inr ⟨Nat.le_of_ble_eq_true rfl, rfl, rfl, rfl, rfl⟩, ?_⟩)
  have hge : p.threads.length ≤ k := by simpa using g
  refine retw [] ⟨_, rfl, tyes ⟨w0, w1, w2, w3, by rw [hlen]; exact n1, by rw [hlen]; exact n4, fun t ht => ?_⟩, rfl⟩ trivial rfl trivial (fun _ => rfl)
  rw [List.take_of_length_le (by rw [hlen]; exact hge)] at hinv
  exact hinv t ht

end Go.Proofs.Ytjkkoonennpceaa

namespace Go.Proofs.Ytjkkoonennpceaa

open Go Go.Sx Go.RowKit

def onceZ : OnceH := ⟨⟨0, 0, 0, []⟩, ⟨none, 0⟩⟩

def rest (ops : List Op) : Int := if ops.length = 0 then 3 else 0

def start (p : Prog) : State := ⟨p.threads.map fun _ => 0, p.threads.map rest, p.sems.map fun n => ⟨n, n, []⟩, [⟨0, 0, 0, []⟩, ⟨0, 0, 0, []⟩, ⟨0, 0, 0, []⟩], p.groups.map fun n => ⟨n, []⟩, p.barriers.map fun n => ⟨n, 0, []⟩, p.rooms.map fun n => ⟨n, [], [], [], false⟩, [], 0⟩

def State.zero : State := ⟨[], [], [], [], [], [], [], [], 0⟩

def StateH.zero : StateH := ⟨[], [], [], [], [], [], [], [], 0, ⟨none, 0⟩, ⟨none, 0⟩, ⟨none, 0⟩, ⟨none, 0⟩, ⟨none, 0⟩, ⟨none, 0⟩, ⟨none, 0⟩, ⟨none, 0⟩⟩

theorem zero_nil : ∀ g ∈ stateO StateH.zero, nilFact g := by
  intro g hg
  simp [stateO, StateH.zero, semsO, oncesO, groupsO, barriersO, chansO, nestO] at hg
  rcases hg with rfl | rfl | rfl | rfl | rfl | rfl | rfl | rfl <;> exact ⟨rfl, rfl, rfl, rfl⟩

/-- What StartProg returns. -/
def Started (p : Prog) (v : Value) (L : List Fct) : Prop := ∃ (y : StateH) (b : Bool), v = .tuple #[stateV y, .bool b] ∧ (b = true ↔ ProgOk p) ∧ (b = true → y.pure = start p) ∧ (b = false → y.pure = State.zero) ∧ L = [fO (stateO y)]

theorem nilOf {α : Type} {inner : α → List Fct} {xs : List α} (h : ∀ x ∈ xs, ∀ g ∈ inner x, nilFact g) : ∀ g ∈ xs.flatMap inner, nilFact g := fun g hg => by
  obtain ⟨x, hx, hg⟩ := List.mem_flatMap.1 hg
  exact h x hx g hg

set_option maxHeartbeats 16000000 in
set_option maxRecDepth 100000 in
theorem startProg_c (p : ProgH) (w : World) (h : At w [fR (progO p)]) (hs : p.sems.length ≤ 1048576 ∧ p.groups.length ≤ 1048576 ∧ p.barriers.length ≤ 1048576 ∧ p.rooms.length ≤ 1048576) :
    Calls Try.prog 5 #[progV p] w (Ret w (Started p.pure)) := by
  refine calls1 Try.func5 rfl tabOk w _ rfl _ rfl _ h ⟨rfl, rfl, trivial⟩ _ (by decide) ?_
  refine stop_call _ cl8 rfl rfl rfl rfl ⟨rfl, rfl⟩ (fun A w hW => progValid_c p w ⟨hW.get 0 rfl (.refl _), trivial⟩ hs) ?_
  rintro v L ⟨b, rfl, hb, rfl⟩
  refine CaseB.mk (fun g => ?_) (fun g => ?_)
  · have hn : ¬ ProgOk p.pure := fun e => by rw [hb.2 e] at g; cases g
    refine ret_shift (.joinO [90] (Gs := [_]) ⟨.inr ⟨Nat.le_of_ble_eq_true rfl, zero_nil⟩, trivial⟩ rfl (G := stateO StateH.zero) (.of_eq (by simp))) ?_
    exact retw [0] ⟨StateH.zero, false, rfl, tno hn, fun e => (by cases e), fun _ => rfl, rfl⟩ ⟨.inl ⟨_, rfl, rfl⟩, trivial⟩ rfl ⟨rfl, trivial⟩ (fun _ => rfl)
  have ok := hb.1 (by simpa using g)
  have n4 : p.threads.length ≤ 4 := by have := ok.n4; simpa [ProgH.pure] using this
  have m0 : p.sems.length ≤ 3 := ok.sems.1
  have m1 : p.groups.length ≤ 3 := ok.groups.1
  have m2 : p.barriers.length ≤ 3 := ok.barriers.1
  have m3 : p.rooms.length ≤ 3 := ok.rooms.1
  refine stop_make encOnceH onceZ tabOk rfl rfl rfl rfl rfl (by decide) ⟨rfl, rfl⟩ 3 rfl (by first | omega | (simp; done) | (simp; omega) | (unfold maxLen; omega) | (unfold maxLen; simp; done) | (unfold maxLen; simp; omega)) (by first | omega | (simp; done) | (simp; omega) | (unfold maxLen; omega) | (unfold maxLen; simp; done) | (unfold maxLen; simp; omega)) (fun y => ?_)
  obtain ⟨LP, hLP⟩ : ∃ l, l = p.threads.map (fun _ => (0 : Int)) := ⟨_, rfl⟩
  obtain ⟨LS, hLS⟩ : ∃ l, l = p.threads.map (fun x => rest x.m) := ⟨_, rfl⟩
  have lP : LP.length = p.threads.length := by rw [hLP]; simp
  have lS : LS.length = p.threads.length := by rw [hLS]; simp
  refine LoopW.mk ⟨{ q : Nat × Sl × Sl // q.1 ≤ p.threads.length },
    fun q => .mk [(1, .p 0 0), (2, .p 1 0), (4, .p 2 0), (23, .v (p.h4.val p.threads.length)), (24, .v (.int .i64 (p.threads.length : Int))), (25, .v (.int .i64 (q.1.1 : Int)))] 3 0 [(0, 26, 5), (1, 34, 9), (2, 34, 9)]
      [((0, 0), .v (p.h0.val p.sems.length)), ((0, 1), .v (p.h1.val p.groups.length)), ((0, 2), .v (p.h2.val p.barriers.length)), ((0, 3), .v (p.h3.val p.rooms.length)), ((0, 4), .v (p.h4.val p.threads.length)), ((2, 0), .v (q.1.2.1.val (LP.take q.1.1).length)), ((2, 1), .v (q.1.2.2.val (LS.take q.1.1).length)), ((2, 2), .v (.slice none 0 0)), ((2, 3), .v (y.val 3)), ((2, 4), .v (.slice none 0 0)), ((2, 5), .v (.slice none 0 0)), ((2, 6), .v (.slice none 0 0)), ((2, 7), .v (.slice none 0 0)), ((2, 8), .v (.int .i64 0))]
      [own q.1.2.1 3 cInt 1 (LP.take q.1.1), own q.1.2.2 3 cInt 1 (LS.take q.1.1), own y 57 cOnceH 4 [onceZ, onceZ, onceZ], fR (progO p)],
    fun q => p.threads.length - q.1.1, ⟨(0, ⟨none, 0⟩, ⟨none, 0⟩), Nat.zero_le _⟩, ?_, ?_⟩
  · refine weak_mk [99, 98, 0, 1] ?_ ?_ ?_ ?_ ?_ rfl rfl
    · repeat (first | exact trivial | refine ⟨⟨_, rfl, (by first | exact .of rfl | exact .lit rfl | exact .of (by first | (rfl)) | exact .lit (by first | (rfl))), (by first | exact trivial | exact Nat.le_of_ble_eq_true rfl | exact small1 rfl)⟩, ?_⟩)
    · repeat (first | exact trivial | refine ⟨⟨(by first | exact .head _ | exact .tail _ (.head _) | exact .tail _ (.tail _ (.head _)) | exact .tail _ (.tail _ (.tail _ (.head _))) | exact .tail _ (.tail _ (.tail _ (.tail _ (.head _)))) | exact .tail _ (.tail _ (.tail _ (.tail _ (.tail _ (.head _))))) | exact .tail _ (.tail _ (.tail _ (.tail _ (.tail _ (.tail _ (.head _)))))) | exact .tail _ (.tail _ (.tail _ (.tail _ (.tail _ (.tail _ (.tail _ (.head _))))))) | exact .tail _ (.tail _ (.tail _ (.tail _ (.tail _ (.tail _ (.tail _ (.tail _ (.head _)))))))) | exact .tail _ (.tail _ (.tail _ (.tail _ (.tail _ (.tail _ (.tail _ (.tail _ (.tail _ (.head _)))))))))), Nat.le_of_ble_eq_true rfl⟩, ?_⟩)
    · repeat (first | exact trivial | refine ⟨⟨_, rfl, (by first | exact .of rfl | exact .lit rfl | exact .of (by first | (rfl)) | exact .lit (by first | (rfl))), (by first | exact trivial | exact Nat.le_of_ble_eq_true rfl | exact small1 rfl)⟩, ?_⟩)
    · repeat (first | exact trivial | refine ⟨⟨_, rfl⟩, ?_⟩)
    · repeat (first | exact trivial | refine ⟨.inl ⟨_, rfl, (by first | rfl | (rfl))⟩, ?_⟩ | refine ⟨.inr ⟨Nat.le_of_ble_eq_true rfl, rfl, rfl, rfl, rfl⟩, ?_⟩)
  rintro ⟨⟨k, a, s⟩, hk⟩
  simp only at hk
  refine CaseB.mk (fun g => ?_) (fun g => ?_)
  · have hlt : k < p.threads.length := by simpa using g
    have eP : LP.take k ++ [0] = LP.take (k + 1) := by rw [hLP]; exact map_take_succ hlt rfl rfl
    have eS : ∀ x, x = rest (p.threads[k]).m → LS.take k ++ [x] = LS.take (k + 1) := fun x hx => by rw [hLS]; exact map_take_succ hlt rfl hx
    have hw := e_succ k _ hlt (by omega)
    refine stop_idx encOpSH tabOk rfl rfl rfl rfl rfl ⟨rfl, rfl⟩ (rdVia 3 rfl (.trans (.R_R (progO_threads p)) (.ofR nest_h))) k rfl (by first | omega | (simp; done) | (simp; omega) | (unfold maxLen; omega) | (unfold maxLen; simp; done) | (unfold maxLen; simp; omega)) (fun ad => ?_)
    refine AllSl.mk fun u => ?_
    refine stop_app encInt 1 tabOk (ys := [0]) rfl rfl rfl rfl rfl rfl rfl rfl rfl (by decide) ⟨rfl, rfl⟩ rfl (by first | exact rdAt 0 rfl | exact rdOwnAt 0 rfl | exact rdAt 1 rfl | exact rdOwnAt 1 rfl | exact rdAt 2 rfl | exact rdOwnAt 2 rfl | exact rdAt 3 rfl | exact rdOwnAt 3 rfl | exact rdAt 4 rfl | exact rdOwnAt 4 rfl | exact rdAt 5 rfl | exact rdOwnAt 5 rfl | exact rdAt 6 rfl | exact rdOwnAt 6 rfl | exact rdAt 7 rfl | exact rdOwnAt 7 rfl | exact rdAt 8 rfl | exact rdOwnAt 8 rfl | exact rdAt 9 rfl | exact rdOwnAt 9 rfl | exact rdAt 10 rfl | exact rdOwnAt 10 rfl | exact rdAt 11 rfl | exact rdOwnAt 11 rfl | exact rdAt 12 rfl | exact rdOwnAt 12 rfl | exact rdAt 13 rfl | exact rdOwnAt 13 rfl | exact rdAt 14 rfl | exact rdOwnAt 14 rfl | exact rdAt 15 rfl | exact rdOwnAt 15 rfl | exact rdAt 16 rfl | exact rdOwnAt 16 rfl | exact rdAt 17 rfl | exact rdOwnAt 17 rfl | exact rdAt 18 rfl | exact rdOwnAt 18 rfl | exact rdAt 19 rfl | exact rdOwnAt 19 rfl | exact rdAt 20 rfl | exact rdOwnAt 20 rfl | exact rdAt 21 rfl | exact rdOwnAt 21 rfl | exact rdAt 22 rfl | exact rdOwnAt 22 rfl | exact rdAt 23 rfl | exact rdOwnAt 23 rfl) (by first | omega | (simp; done) | (simp; omega) | (unfold maxLen; omega) | (unfold maxLen; simp; done) | (unfold maxLen; simp; omega)) (by first | omega | (simp; done) | (simp; omega) | (unfold maxLen; omega) | (unfold maxLen; simp; done) | (unfold maxLen; simp; omega)) (fun a2 => ?_)
    rw [eP]
    refine CaseB.mk (fun g => ?_) (fun g => ?_)
    · have q : (p.threads[k]).m.length = 0 := by simp at g; simp [g]
      refine AllSl.mk fun u2 => ?_
      refine stop_app encInt 3 tabOk (ys := [3]) rfl rfl rfl rfl rfl rfl rfl rfl rfl (by decide) ⟨rfl, rfl⟩ rfl (by first | exact rdAt 0 rfl | exact rdOwnAt 0 rfl | exact rdAt 1 rfl | exact rdOwnAt 1 rfl | exact rdAt 2 rfl | exact rdOwnAt 2 rfl | exact rdAt 3 rfl | exact rdOwnAt 3 rfl | exact rdAt 4 rfl | exact rdOwnAt 4 rfl | exact rdAt 5 rfl | exact rdOwnAt 5 rfl | exact rdAt 6 rfl | exact rdOwnAt 6 rfl | exact rdAt 7 rfl | exact rdOwnAt 7 rfl | exact rdAt 8 rfl | exact rdOwnAt 8 rfl | exact rdAt 9 rfl | exact rdOwnAt 9 rfl | exact rdAt 10 rfl | exact rdOwnAt 10 rfl | exact rdAt 11 rfl | exact rdOwnAt 11 rfl | exact rdAt 12 rfl | exact rdOwnAt 12 rfl | exact rdAt 13 rfl | exact rdOwnAt 13 rfl | exact rdAt 14 rfl | exact rdOwnAt 14 rfl | exact rdAt 15 rfl | exact rdOwnAt 15 rfl | exact rdAt 16 rfl | exact rdOwnAt 16 rfl | exact rdAt 17 rfl | exact rdOwnAt 17 rfl | exact rdAt 18 rfl | exact rdOwnAt 18 rfl | exact rdAt 19 rfl | exact rdOwnAt 19 rfl | exact rdAt 20 rfl | exact rdOwnAt 20 rfl | exact rdAt 21 rfl | exact rdOwnAt 21 rfl | exact rdAt 22 rfl | exact rdOwnAt 22 rfl | exact rdAt 23 rfl | exact rdOwnAt 23 rfl) (by first | omega | (simp; done) | (simp; omega) | (unfold maxLen; omega) | (unfold maxLen; simp; done) | (unfold maxLen; simp; omega)) (by first | omega | (simp; done) | (simp; omega) | (unfold maxLen; omega) | (unfold maxLen; simp; done) | (unfold maxLen; simp; omega)) (fun s2 => ?_)
      rw [eS 3 (by simp [rest, q])]
      refine ⟨⟨(k + 1, a2, s2), by omega⟩, ?_, by simp only; omega⟩
      refine weak_mk [2, 0, 4, 5] ?_ ?_ ?_ ?_ ?_ rfl rfl
      · repeat (first | exact trivial | refine ⟨⟨_, rfl, (by first | exact .of rfl | exact .lit rfl | exact .of (by first | ((exact congrArg (fun z => SV.v (Value.int .i64 z)) hw))) | exact .lit (by first | ((exact congrArg (fun z => SV.v (Value.int .i64 z)) hw)))), (by first | exact trivial | exact Nat.le_of_ble_eq_true rfl | exact small1 rfl)⟩, ?_⟩)
      · repeat (first | exact trivial | refine ⟨⟨(by first | exact .head _ | exact .tail _ (.head _) | exact .tail _ (.tail _ (.head _)) | exact .tail _ (.tail _ (.tail _ (.head _))) | exact .tail _ (.tail _ (.tail _ (.tail _ (.head _)))) | exact .tail _ (.tail _ (.tail _ (.tail _ (.tail _ (.head _))))) | exact .tail _ (.tail _ (.tail _ (.tail _ (.tail _ (.tail _ (.head _)))))) | exact .tail _ (.tail _ (.tail _ (.tail _ (.tail _ (.tail _ (.tail _ (.head _))))))) | exact .tail _ (.tail _ (.tail _ (.tail _ (.tail _ (.tail _ (.tail _ (.tail _ (.head _)))))))) | exact .tail _ (.tail _ (.tail _ (.tail _ (.tail _ (.tail _ (.tail _ (.tail _ (.tail _ (.head _)))))))))), Nat.le_of_ble_eq_true rfl⟩, ?_⟩)
      · repeat (first | exact trivial | refine ⟨⟨_, rfl, (by first | exact .of rfl | exact .lit rfl | exact .of (by first | ((exact congrArg (fun z => SV.v (Value.int .i64 z)) hw))) | exact .lit (by first | ((exact congrArg (fun z => SV.v (Value.int .i64 z)) hw)))), (by first | exact trivial | exact Nat.le_of_ble_eq_true rfl | exact small1 rfl)⟩, ?_⟩)
      · repeat (first | exact trivial | refine ⟨⟨_, rfl⟩, ?_⟩)
      · repeat (first | exact trivial | refine ⟨.inl ⟨_, rfl, (by first | rfl | ((exact congrArg (fun z => SV.v (Value.int .i64 z)) hw)))⟩, ?_⟩ | refine ⟨.inr ⟨Nat.le_of_ble_eq_true rfl, rfl, rfl, rfl, rfl⟩, ?_⟩)
    · have q : ¬ (p.threads[k]).m.length = 0 := by simp at g; simp [g]
      refine AllSl.mk fun u2 => ?_
      refine stop_app encInt 3 tabOk (ys := [0]) rfl rfl rfl rfl rfl rfl rfl rfl rfl (by decide) ⟨rfl, rfl⟩ rfl (by first | exact rdAt 0 rfl | exact rdOwnAt 0 rfl | exact rdAt 1 rfl | exact rdOwnAt 1 rfl | exact rdAt 2 rfl | exact rdOwnAt 2 rfl | exact rdAt 3 rfl | exact rdOwnAt 3 rfl | exact rdAt 4 rfl | exact rdOwnAt 4 rfl | exact rdAt 5 rfl | exact rdOwnAt 5 rfl | exact rdAt 6 rfl | exact rdOwnAt 6 rfl | exact rdAt 7 rfl | exact rdOwnAt 7 rfl | exact rdAt 8 rfl | exact rdOwnAt 8 rfl | exact rdAt 9 rfl | exact rdOwnAt 9 rfl | exact rdAt 10 rfl | exact rdOwnAt 10 rfl | exact rdAt 11 rfl | exact rdOwnAt 11 rfl | exact rdAt 12 rfl | exact rdOwnAt 12 rfl | exact rdAt 13 rfl | exact rdOwnAt 13 rfl | exact rdAt 14 rfl | exact rdOwnAt 14 rfl | exact rdAt 15 rfl | exact rdOwnAt 15 rfl | exact rdAt 16 rfl | exact rdOwnAt 16 rfl | exact rdAt 17 rfl | exact rdOwnAt 17 rfl | exact rdAt 18 rfl | exact rdOwnAt 18 rfl | exact rdAt 19 rfl | exact rdOwnAt 19 rfl | exact rdAt 20 rfl | exact rdOwnAt 20 rfl | exact rdAt 21 rfl | exact rdOwnAt 21 rfl | exact rdAt 22 rfl | exact rdOwnAt 22 rfl | exact rdAt 23 rfl | exact rdOwnAt 23 rfl) (by first | omega | (simp; done) | (simp; omega) | (unfold maxLen; omega) | (unfold maxLen; simp; done) | (unfold maxLen; simp; omega)) (by first | omega | (simp; done) | (simp; omega) | (unfold maxLen; omega) | (unfold maxLen; simp; done) | (unfold maxLen; simp; omega)) (fun s2 => ?_)
      rw [eS 0 (by simp [rest, q])]
      refine ⟨⟨(k + 1, a2, s2), by omega⟩, ?_, by simp only; omega⟩
      refine weak_mk [2, 0, 4, 5] ?_ ?_ ?_ ?_ ?_ rfl rfl
      · repeat (first | exact trivial | refine ⟨⟨_, rfl, (by first | exact .of rfl | exact .lit rfl | exact .of (by first | ((exact congrArg (fun z => SV.v (Value.int .i64 z)) hw))) | exact .lit (by first | ((exact congrArg (fun z => SV.v (Value.int .i64 z)) hw)))), (by first | exact trivial | exact Nat.le_of_ble_eq_true rfl | exact small1 rfl)⟩, ?_⟩)
      · repeat (first | exact trivial | refine ⟨⟨(by first | exact .head _ | exact .tail _ (.head _) | exact .tail _ (.tail _ (.head _)) | exact .tail _ (.tail _ (.tail _ (.head _))) | exact .tail _ (.tail _ (.tail _ (.tail _ (.head _)))) | exact .tail _ (.tail _ (.tail _ (.tail _ (.tail _ (.head _))))) | exact .tail _ (.tail _ (.tail _ (.tail _ (.tail _ (.tail _ (.head _)))))) | exact .tail _ (.tail _ (.tail _ (.tail _ (.tail _ (.tail _ (.tail _ (.head _))))))) | exact .tail _ (.tail _ (.tail _ (.tail _ (.tail _ (.tail _ (.tail _ (.tail _ (.head _)))))))) | exact .tail _ (.tail _ (.tail _ (.tail _ (.tail _ (.tail _ (.tail _ (.tail _ (.tail _ (.head _)))))))))), Nat.le_of_ble_eq_true rfl⟩, ?_⟩)
      · repeat (first | exact trivial | refine ⟨⟨_, rfl, (by first | exact .of rfl | exact .lit rfl | exact .of (by first | ((exact congrArg (fun z => SV.v (Value.int .i64 z)) hw))) | exact .lit (by first | ((exact congrArg (fun z => SV.v (Value.int .i64 z)) hw)))), (by first | exact trivial | exact Nat.le_of_ble_eq_true rfl | exact small1 rfl)⟩, ?_⟩)
      · repeat (first | exact trivial | refine ⟨⟨_, rfl⟩, ?_⟩)
      · repeat (first | exact trivial | refine ⟨.inl ⟨_, rfl, (by first | rfl | ((exact congrArg (fun z => SV.v (Value.int .i64 z)) hw)))⟩, ?_⟩ | refine ⟨.inr ⟨Nat.le_of_ble_eq_true rfl, rfl, rfl, rfl, rfl⟩, ?_⟩)
  have hge : p.threads.length ≤ k := by simpa using g
  have eP : LP.take k = LP := List.take_of_length_le (by omega)
  have eS : LS.take k = LS := List.take_of_length_le (by omega)
  obtain ⟨L0, hL0⟩ : ∃ l, l = p.sems.map (fun n => (⟨⟨n, n, []⟩, ⟨none, 0⟩⟩ : SemH)) := ⟨_, rfl⟩
  have lenL0 : L0.length = p.sems.length := by rw [hL0]; simp
  refine LoopW.mk ⟨{ q : Nat × Sl // q.1 ≤ p.sems.length },
    fun q => .mk [(1, .p 0 0), (2, .p 1 0), (4, .p 2 0), (45, .v (p.h0.val p.sems.length)), (46, .v (.int .i64 (p.sems.length : Int))), (47, .v (.int .i64 (q.1.1 : Int)))] 3 0 [(0, 26, 5), (1, 34, 9), (2, 34, 9)]
      [((0, 0), .v (p.h0.val p.sems.length)), ((0, 1), .v (p.h1.val p.groups.length)), ((0, 2), .v (p.h2.val p.barriers.length)), ((0, 3), .v (p.h3.val p.rooms.length)), ((0, 4), .v (p.h4.val p.threads.length)), ((2, 0), .v (a.val LP.length)), ((2, 1), .v (s.val LS.length)), ((2, 2), .v (q.1.2.val (L0.take q.1.1).length)), ((2, 3), .v (y.val 3)), ((2, 4), .v (.slice none 0 0)), ((2, 5), .v (.slice none 0 0)), ((2, 6), .v (.slice none 0 0)), ((2, 7), .v (.slice none 0 0)), ((2, 8), .v (.int .i64 0))]
      [own q.1.2 45 cSemH 3 (L0.take q.1.1), own a 3 cInt 1 LP, own s 3 cInt 1 LS, own y 57 cOnceH 4 [onceZ, onceZ, onceZ], fR (progO p)],
    fun q => p.sems.length - q.1.1, ⟨(0, ⟨none, 0⟩), Nat.zero_le _⟩, ?_, ?_⟩
  · refine weak_mk [99, 0, 1, 2, 3] ?_ ?_ ?_ ?_ ?_ rfl rfl
    · repeat (first | exact trivial | refine ⟨⟨_, rfl, (by first | exact .of rfl | exact .lit rfl | exact .of (by first | ((first | (rw [eP]; done) | (rw [eS]; done)))) | exact .lit (by first | ((first | (rw [eP]; done) | (rw [eS]; done))))), (by first | exact trivial | exact Nat.le_of_ble_eq_true rfl | exact small1 rfl)⟩, ?_⟩)
    · repeat (first | exact trivial | refine ⟨⟨(by first | exact .head _ | exact .tail _ (.head _) | exact .tail _ (.tail _ (.head _)) | exact .tail _ (.tail _ (.tail _ (.head _))) | exact .tail _ (.tail _ (.tail _ (.tail _ (.head _)))) | exact .tail _ (.tail _ (.tail _ (.tail _ (.tail _ (.head _))))) | exact .tail _ (.tail _ (.tail _ (.tail _ (.tail _ (.tail _ (.head _)))))) | exact .tail _ (.tail _ (.tail _ (.tail _ (.tail _ (.tail _ (.tail _ (.head _))))))) | exact .tail _ (.tail _ (.tail _ (.tail _ (.tail _ (.tail _ (.tail _ (.tail _ (.head _)))))))) | exact .tail _ (.tail _ (.tail _ (.tail _ (.tail _ (.tail _ (.tail _ (.tail _ (.tail _ (.head _)))))))))), Nat.le_of_ble_eq_true rfl⟩, ?_⟩)
    · repeat (first | exact trivial | refine ⟨⟨_, rfl, (by first | exact .of rfl | exact .lit rfl | exact .of (by first | ((first | (rw [eP]; done) | (rw [eS]; done)))) | exact .lit (by first | ((first | (rw [eP]; done) | (rw [eS]; done))))), (by first | exact trivial | exact Nat.le_of_ble_eq_true rfl | exact small1 rfl)⟩, ?_⟩)
    · repeat (first | exact trivial | refine ⟨⟨_, rfl⟩, ?_⟩)
    · repeat (first | exact trivial | refine ⟨.inl ⟨_, rfl, (by first | rfl | ((first | (rw [eP]; done) | (rw [eS]; done))))⟩, ?_⟩ | refine ⟨.inr ⟨Nat.le_of_ble_eq_true rfl, rfl, rfl, rfl, rfl⟩, ?_⟩)
  rintro ⟨⟨k0, c0⟩, hk⟩
  simp only at hk
  refine CaseB.mk (fun g => ?_) (fun g => ?_)
  · have hlt : k0 < p.sems.length := by simpa using g
    have e : ∀ x, x = (⟨⟨p.sems[k0], p.sems[k0], []⟩, ⟨none, 0⟩⟩ : SemH) → L0.take k0 ++ [x] = L0.take (k0 + 1) := fun x hx => by rw [hL0]; exact map_take_succ hlt rfl hx
    have hw := e_succ k0 _ hlt (by omega)
    refine stop_idx encInt tabOk rfl rfl rfl rfl rfl ⟨rfl, rfl⟩ (rdVia 4 rfl (.ofR (progO_sems p))) k0 rfl (by first | omega | (simp; done) | (simp; omega) | (unfold maxLen; omega) | (unfold maxLen; simp; done) | (unfold maxLen; simp; omega)) (fun ad => ?_)
    refine AllSl.mk fun u => ?_
    refine stop_app encSemH 1 tabOk (ys := [⟨⟨p.sems[k0], p.sems[k0], []⟩, ⟨none, 0⟩⟩]) rfl rfl rfl rfl rfl rfl rfl rfl rfl (by decide) ⟨rfl, rfl⟩ rfl (by first | exact rdAt 0 rfl | exact rdOwnAt 0 rfl | exact rdAt 1 rfl | exact rdOwnAt 1 rfl | exact rdAt 2 rfl | exact rdOwnAt 2 rfl | exact rdAt 3 rfl | exact rdOwnAt 3 rfl | exact rdAt 4 rfl | exact rdOwnAt 4 rfl | exact rdAt 5 rfl | exact rdOwnAt 5 rfl | exact rdAt 6 rfl | exact rdOwnAt 6 rfl | exact rdAt 7 rfl | exact rdOwnAt 7 rfl | exact rdAt 8 rfl | exact rdOwnAt 8 rfl | exact rdAt 9 rfl | exact rdOwnAt 9 rfl | exact rdAt 10 rfl | exact rdOwnAt 10 rfl | exact rdAt 11 rfl | exact rdOwnAt 11 rfl | exact rdAt 12 rfl | exact rdOwnAt 12 rfl | exact rdAt 13 rfl | exact rdOwnAt 13 rfl | exact rdAt 14 rfl | exact rdOwnAt 14 rfl | exact rdAt 15 rfl | exact rdOwnAt 15 rfl | exact rdAt 16 rfl | exact rdOwnAt 16 rfl | exact rdAt 17 rfl | exact rdOwnAt 17 rfl | exact rdAt 18 rfl | exact rdOwnAt 18 rfl | exact rdAt 19 rfl | exact rdOwnAt 19 rfl | exact rdAt 20 rfl | exact rdOwnAt 20 rfl | exact rdAt 21 rfl | exact rdOwnAt 21 rfl | exact rdAt 22 rfl | exact rdOwnAt 22 rfl | exact rdAt 23 rfl | exact rdOwnAt 23 rfl) (by first | omega | (simp; done) | (simp; omega) | (unfold maxLen; omega) | (unfold maxLen; simp; done) | (unfold maxLen; simp; omega)) (by first | omega | (simp; done) | (simp; omega) | (unfold maxLen; omega) | (unfold maxLen; simp; done) | (unfold maxLen; simp; omega)) (fun c0' => ?_)
    rw [e _ rfl]
    refine ⟨⟨(k0 + 1, c0'), by omega⟩, ?_, by simp only; omega⟩
    refine weak_mk [0, 2, 3, 4, 5] ?_ ?_ ?_ ?_ ?_ rfl rfl
    · repeat (first | exact trivial | refine ⟨⟨_, rfl, (by first | exact .of rfl | exact .lit rfl | exact .of (by first | ((exact congrArg (fun z => SV.v (Value.int .i64 z)) hw))) | exact .lit (by first | ((exact congrArg (fun z => SV.v (Value.int .i64 z)) hw)))), (by first | exact trivial | exact Nat.le_of_ble_eq_true rfl | exact small1 rfl)⟩, ?_⟩)
    · repeat (first | exact trivial | refine ⟨⟨(by first | exact .head _ | exact .tail _ (.head _) | exact .tail _ (.tail _ (.head _)) | exact .tail _ (.tail _ (.tail _ (.head _))) | exact .tail _ (.tail _ (.tail _ (.tail _ (.head _)))) | exact .tail _ (.tail _ (.tail _ (.tail _ (.tail _ (.head _))))) | exact .tail _ (.tail _ (.tail _ (.tail _ (.tail _ (.tail _ (.head _)))))) | exact .tail _ (.tail _ (.tail _ (.tail _ (.tail _ (.tail _ (.tail _ (.head _))))))) | exact .tail _ (.tail _ (.tail _ (.tail _ (.tail _ (.tail _ (.tail _ (.tail _ (.head _)))))))) | exact .tail _ (.tail _ (.tail _ (.tail _ (.tail _ (.tail _ (.tail _ (.tail _ (.tail _ (.head _)))))))))), Nat.le_of_ble_eq_true rfl⟩, ?_⟩)
    · repeat (first | exact trivial | refine ⟨⟨_, rfl, (by first | exact .of rfl | exact .lit rfl | exact .of (by first | ((exact congrArg (fun z => SV.v (Value.int .i64 z)) hw))) | exact .lit (by first | ((exact congrArg (fun z => SV.v (Value.int .i64 z)) hw)))), (by first | exact trivial | exact Nat.le_of_ble_eq_true rfl | exact small1 rfl)⟩, ?_⟩)
    · repeat (first | exact trivial | refine ⟨⟨_, rfl⟩, ?_⟩)
    · repeat (first | exact trivial | refine ⟨.inl ⟨_, rfl, (by first | rfl | ((exact congrArg (fun z => SV.v (Value.int .i64 z)) hw)))⟩, ?_⟩ | refine ⟨.inr ⟨Nat.le_of_ble_eq_true rfl, rfl, rfl, rfl, rfl⟩, ?_⟩)
  have hge0 : p.sems.length ≤ k0 := by simpa using g
  have e0 : L0.take k0 = L0 := List.take_of_length_le (by omega)
  obtain ⟨L1, hL1⟩ : ∃ l, l = p.groups.map (fun n => (⟨⟨n, []⟩, ⟨none, 0⟩⟩ : GroupH)) := ⟨_, rfl⟩
  have lenL1 : L1.length = p.groups.length := by rw [hL1]; simp
  refine LoopW.mk ⟨{ q : Nat × Sl // q.1 ≤ p.groups.length },
    fun q => .mk [(1, .p 0 0), (2, .p 1 0), (4, .p 2 0), (61, .v (p.h1.val p.groups.length)), (62, .v (.int .i64 (p.groups.length : Int))), (63, .v (.int .i64 (q.1.1 : Int)))] 3 0 [(0, 26, 5), (1, 34, 9), (2, 34, 9)]
      [((0, 0), .v (p.h0.val p.sems.length)), ((0, 1), .v (p.h1.val p.groups.length)), ((0, 2), .v (p.h2.val p.barriers.length)), ((0, 3), .v (p.h3.val p.rooms.length)), ((0, 4), .v (p.h4.val p.threads.length)), ((2, 0), .v (a.val LP.length)), ((2, 1), .v (s.val LS.length)), ((2, 2), .v (c0.val L0.length)), ((2, 3), .v (y.val 3)), ((2, 4), .v (q.1.2.val (L1.take q.1.1).length)), ((2, 5), .v (.slice none 0 0)), ((2, 6), .v (.slice none 0 0)), ((2, 7), .v (.slice none 0 0)), ((2, 8), .v (.int .i64 0))]
      [own q.1.2 47 cGroupH 2 (L1.take q.1.1), own c0 45 cSemH 3 L0, own a 3 cInt 1 LP, own s 3 cInt 1 LS, own y 57 cOnceH 4 [onceZ, onceZ, onceZ], fR (progO p)],
    fun q => p.groups.length - q.1.1, ⟨(0, ⟨none, 0⟩), Nat.zero_le _⟩, ?_, ?_⟩
  · refine weak_mk [99, 0, 1, 2, 3, 4] ?_ ?_ ?_ ?_ ?_ rfl rfl
    · repeat (first | exact trivial | refine ⟨⟨_, rfl, (by first | exact .of rfl | exact .lit rfl | exact .of (by first | ((first | (rw [e0]; done)))) | exact .lit (by first | ((first | (rw [e0]; done))))), (by first | exact trivial | exact Nat.le_of_ble_eq_true rfl | exact small1 rfl)⟩, ?_⟩)
    · repeat (first | exact trivial | refine ⟨⟨(by first | exact .head _ | exact .tail _ (.head _) | exact .tail _ (.tail _ (.head _)) | exact .tail _ (.tail _ (.tail _ (.head _))) | exact .tail _ (.tail _ (.tail _ (.tail _ (.head _)))) | exact .tail _ (.tail _ (.tail _ (.tail _ (.tail _ (.head _))))) | exact .tail _ (.tail _ (.tail _ (.tail _ (.tail _ (.tail _ (.head _)))))) | exact .tail _ (.tail _ (.tail _ (.tail _ (.tail _ (.tail _ (.tail _ (.head _))))))) | exact .tail _ (.tail _ (.tail _ (.tail _ (.tail _ (.tail _ (.tail _ (.tail _ (.head _)))))))) | exact .tail _ (.tail _ (.tail _ (.tail _ (.tail _ (.tail _ (.tail _ (.tail _ (.tail _ (.head _)))))))))), Nat.le_of_ble_eq_true rfl⟩, ?_⟩)
    · repeat (first | exact trivial | refine ⟨⟨_, rfl, (by first | exact .of rfl | exact .lit rfl | exact .of (by first | ((first | (rw [e0]; done)))) | exact .lit (by first | ((first | (rw [e0]; done))))), (by first | exact trivial | exact Nat.le_of_ble_eq_true rfl | exact small1 rfl)⟩, ?_⟩)
    · repeat (first | exact trivial | refine ⟨⟨_, rfl⟩, ?_⟩)
    · repeat (first | exact trivial | refine ⟨.inl ⟨_, rfl, (by first | rfl | ((first | (rw [e0]; done))))⟩, ?_⟩ | refine ⟨.inr ⟨Nat.le_of_ble_eq_true rfl, rfl, rfl, rfl, rfl⟩, ?_⟩)
  rintro ⟨⟨k1, c1⟩, hk⟩
  simp only at hk
  refine CaseB.mk (fun g => ?_) (fun g => ?_)
  · have hlt : k1 < p.groups.length := by simpa using g
    have e : ∀ x, x = (⟨⟨p.groups[k1], []⟩, ⟨none, 0⟩⟩ : GroupH) → L1.take k1 ++ [x] = L1.take (k1 + 1) := fun x hx => by rw [hL1]; exact map_take_succ hlt rfl hx
    have hw := e_succ k1 _ hlt (by omega)
    refine stop_idx encInt tabOk rfl rfl rfl rfl rfl ⟨rfl, rfl⟩ (rdVia 5 rfl (.ofR (progO_groups p))) k1 rfl (by first | omega | (simp; done) | (simp; omega) | (unfold maxLen; omega) | (unfold maxLen; simp; done) | (unfold maxLen; simp; omega)) (fun ad => ?_)
    refine AllSl.mk fun u => ?_
    refine stop_app encGroupH 1 tabOk (ys := [⟨⟨p.groups[k1], []⟩, ⟨none, 0⟩⟩]) rfl rfl rfl rfl rfl rfl rfl rfl rfl (by decide) ⟨rfl, rfl⟩ rfl (by first | exact rdAt 0 rfl | exact rdOwnAt 0 rfl | exact rdAt 1 rfl | exact rdOwnAt 1 rfl | exact rdAt 2 rfl | exact rdOwnAt 2 rfl | exact rdAt 3 rfl | exact rdOwnAt 3 rfl | exact rdAt 4 rfl | exact rdOwnAt 4 rfl | exact rdAt 5 rfl | exact rdOwnAt 5 rfl | exact rdAt 6 rfl | exact rdOwnAt 6 rfl | exact rdAt 7 rfl | exact rdOwnAt 7 rfl | exact rdAt 8 rfl | exact rdOwnAt 8 rfl | exact rdAt 9 rfl | exact rdOwnAt 9 rfl | exact rdAt 10 rfl | exact rdOwnAt 10 rfl | exact rdAt 11 rfl | exact rdOwnAt 11 rfl | exact rdAt 12 rfl | exact rdOwnAt 12 rfl | exact rdAt 13 rfl | exact rdOwnAt 13 rfl | exact rdAt 14 rfl | exact rdOwnAt 14 rfl | exact rdAt 15 rfl | exact rdOwnAt 15 rfl | exact rdAt 16 rfl | exact rdOwnAt 16 rfl | exact rdAt 17 rfl | exact rdOwnAt 17 rfl | exact rdAt 18 rfl | exact rdOwnAt 18 rfl | exact rdAt 19 rfl | exact rdOwnAt 19 rfl | exact rdAt 20 rfl | exact rdOwnAt 20 rfl | exact rdAt 21 rfl | exact rdOwnAt 21 rfl | exact rdAt 22 rfl | exact rdOwnAt 22 rfl | exact rdAt 23 rfl | exact rdOwnAt 23 rfl) (by first | omega | (simp; done) | (simp; omega) | (unfold maxLen; omega) | (unfold maxLen; simp; done) | (unfold maxLen; simp; omega)) (by first | omega | (simp; done) | (simp; omega) | (unfold maxLen; omega) | (unfold maxLen; simp; done) | (unfold maxLen; simp; omega)) (fun c1' => ?_)
    rw [e _ rfl]
    refine ⟨⟨(k1 + 1, c1'), by omega⟩, ?_, by simp only; omega⟩
    refine weak_mk [0, 2, 3, 4, 5, 6] ?_ ?_ ?_ ?_ ?_ rfl rfl
    · repeat (first | exact trivial | refine ⟨⟨_, rfl, (by first | exact .of rfl | exact .lit rfl | exact .of (by first | ((exact congrArg (fun z => SV.v (Value.int .i64 z)) hw))) | exact .lit (by first | ((exact congrArg (fun z => SV.v (Value.int .i64 z)) hw)))), (by first | exact trivial | exact Nat.le_of_ble_eq_true rfl | exact small1 rfl)⟩, ?_⟩)
    · repeat (first | exact trivial | refine ⟨⟨(by first | exact .head _ | exact .tail _ (.head _) | exact .tail _ (.tail _ (.head _)) | exact .tail _ (.tail _ (.tail _ (.head _))) | exact .tail _ (.tail _ (.tail _ (.tail _ (.head _)))) | exact .tail _ (.tail _ (.tail _ (.tail _ (.tail _ (.head _))))) | exact .tail _ (.tail _ (.tail _ (.tail _ (.tail _ (.tail _ (.head _)))))) | exact .tail _ (.tail _ (.tail _ (.tail _ (.tail _ (.tail _ (.tail _ (.head _))))))) | exact .tail _ (.tail _ (.tail _ (.tail _ (.tail _ (.tail _ (.tail _ (.tail _ (.head _)))))))) | exact .tail _ (.tail _ (.tail _ (.tail _ (.tail _ (.tail _ (.tail _ (.tail _ (.tail _ (.head _)))))))))), Nat.le_of_ble_eq_true rfl⟩, ?_⟩)
    · repeat (first | exact trivial | refine ⟨⟨_, rfl, (by first | exact .of rfl | exact .lit rfl | exact .of (by first | ((exact congrArg (fun z => SV.v (Value.int .i64 z)) hw))) | exact .lit (by first | ((exact congrArg (fun z => SV.v (Value.int .i64 z)) hw)))), (by first | exact trivial | exact Nat.le_of_ble_eq_true rfl | exact small1 rfl)⟩, ?_⟩)
    · repeat (first | exact trivial | refine ⟨⟨_, rfl⟩, ?_⟩)
    · repeat (first | exact trivial | refine ⟨.inl ⟨_, rfl, (by first | rfl | ((exact congrArg (fun z => SV.v (Value.int .i64 z)) hw)))⟩, ?_⟩ | refine ⟨.inr ⟨Nat.le_of_ble_eq_true rfl, rfl, rfl, rfl, rfl⟩, ?_⟩)
  have hge1 : p.groups.length ≤ k1 := by simpa using g
  have e1 : L1.take k1 = L1 := List.take_of_length_le (by omega)
  obtain ⟨L2, hL2⟩ : ∃ l, l = p.barriers.map (fun n => (⟨⟨n, 0, []⟩, ⟨none, 0⟩⟩ : BarrierH)) := ⟨_, rfl⟩
  have lenL2 : L2.length = p.barriers.length := by rw [hL2]; simp
  refine LoopW.mk ⟨{ q : Nat × Sl // q.1 ≤ p.barriers.length },
    fun q => .mk [(1, .p 0 0), (2, .p 1 0), (4, .p 2 0), (76, .v (p.h2.val p.barriers.length)), (77, .v (.int .i64 (p.barriers.length : Int))), (78, .v (.int .i64 (q.1.1 : Int)))] 3 0 [(0, 26, 5), (1, 34, 9), (2, 34, 9)]
      [((0, 0), .v (p.h0.val p.sems.length)), ((0, 1), .v (p.h1.val p.groups.length)), ((0, 2), .v (p.h2.val p.barriers.length)), ((0, 3), .v (p.h3.val p.rooms.length)), ((0, 4), .v (p.h4.val p.threads.length)), ((2, 0), .v (a.val LP.length)), ((2, 1), .v (s.val LS.length)), ((2, 2), .v (c0.val L0.length)), ((2, 3), .v (y.val 3)), ((2, 4), .v (c1.val L1.length)), ((2, 5), .v (q.1.2.val (L2.take q.1.1).length)), ((2, 6), .v (.slice none 0 0)), ((2, 7), .v (.slice none 0 0)), ((2, 8), .v (.int .i64 0))]
      [own q.1.2 49 cBarrierH 3 (L2.take q.1.1), own c1 47 cGroupH 2 L1, own c0 45 cSemH 3 L0, own a 3 cInt 1 LP, own s 3 cInt 1 LS, own y 57 cOnceH 4 [onceZ, onceZ, onceZ], fR (progO p)],
    fun q => p.barriers.length - q.1.1, ⟨(0, ⟨none, 0⟩), Nat.zero_le _⟩, ?_, ?_⟩
  · refine weak_mk [99, 0, 1, 2, 3, 4, 5] ?_ ?_ ?_ ?_ ?_ rfl rfl
    · repeat (first | exact trivial | refine ⟨⟨_, rfl, (by first | exact .of rfl | exact .lit rfl | exact .of (by first | ((first | (rw [e1]; done)))) | exact .lit (by first | ((first | (rw [e1]; done))))), (by first | exact trivial | exact Nat.le_of_ble_eq_true rfl | exact small1 rfl)⟩, ?_⟩)
    · repeat (first | exact trivial | refine ⟨⟨(by first | exact .head _ | exact .tail _ (.head _) | exact .tail _ (.tail _ (.head _)) | exact .tail _ (.tail _ (.tail _ (.head _))) | exact .tail _ (.tail _ (.tail _ (.tail _ (.head _)))) | exact .tail _ (.tail _ (.tail _ (.tail _ (.tail _ (.head _))))) | exact .tail _ (.tail _ (.tail _ (.tail _ (.tail _ (.tail _ (.head _)))))) | exact .tail _ (.tail _ (.tail _ (.tail _ (.tail _ (.tail _ (.tail _ (.head _))))))) | exact .tail _ (.tail _ (.tail _ (.tail _ (.tail _ (.tail _ (.tail _ (.tail _ (.head _)))))))) | exact .tail _ (.tail _ (.tail _ (.tail _ (.tail _ (.tail _ (.tail _ (.tail _ (.tail _ (.head _)))))))))), Nat.le_of_ble_eq_true rfl⟩, ?_⟩)
    · repeat (first | exact trivial | refine ⟨⟨_, rfl, (by first | exact .of rfl | exact .lit rfl | exact .of (by first | ((first | (rw [e1]; done)))) | exact .lit (by first | ((first | (rw [e1]; done))))), (by first | exact trivial | exact Nat.le_of_ble_eq_true rfl | exact small1 rfl)⟩, ?_⟩)
    · repeat (first | exact trivial | refine ⟨⟨_, rfl⟩, ?_⟩)
    · repeat (first | exact trivial | refine ⟨.inl ⟨_, rfl, (by first | rfl | ((first | (rw [e1]; done))))⟩, ?_⟩ | refine ⟨.inr ⟨Nat.le_of_ble_eq_true rfl, rfl, rfl, rfl, rfl⟩, ?_⟩)
  rintro ⟨⟨k2, c2⟩, hk⟩
  simp only at hk
  refine CaseB.mk (fun g => ?_) (fun g => ?_)
  · have hlt : k2 < p.barriers.length := by simpa using g
    have e : ∀ x, x = (⟨⟨p.barriers[k2], 0, []⟩, ⟨none, 0⟩⟩ : BarrierH) → L2.take k2 ++ [x] = L2.take (k2 + 1) := fun x hx => by rw [hL2]; exact map_take_succ hlt rfl hx
    have hw := e_succ k2 _ hlt (by omega)
    refine stop_idx encInt tabOk rfl rfl rfl rfl rfl ⟨rfl, rfl⟩ (rdVia 6 rfl (.ofR (progO_barriers p))) k2 rfl (by first | omega | (simp; done) | (simp; omega) | (unfold maxLen; omega) | (unfold maxLen; simp; done) | (unfold maxLen; simp; omega)) (fun ad => ?_)
    refine AllSl.mk fun u => ?_
    refine stop_app encBarrierH 1 tabOk (ys := [⟨⟨p.barriers[k2], 0, []⟩, ⟨none, 0⟩⟩]) rfl rfl rfl rfl rfl rfl rfl rfl rfl (by decide) ⟨rfl, rfl⟩ rfl (by first | exact rdAt 0 rfl | exact rdOwnAt 0 rfl | exact rdAt 1 rfl | exact rdOwnAt 1 rfl | exact rdAt 2 rfl | exact rdOwnAt 2 rfl | exact rdAt 3 rfl | exact rdOwnAt 3 rfl | exact rdAt 4 rfl | exact rdOwnAt 4 rfl | exact rdAt 5 rfl | exact rdOwnAt 5 rfl | exact rdAt 6 rfl | exact rdOwnAt 6 rfl | exact rdAt 7 rfl | exact rdOwnAt 7 rfl | exact rdAt 8 rfl | exact rdOwnAt 8 rfl | exact rdAt 9 rfl | exact rdOwnAt 9 rfl | exact rdAt 10 rfl | exact rdOwnAt 10 rfl | exact rdAt 11 rfl | exact rdOwnAt 11 rfl | exact rdAt 12 rfl | exact rdOwnAt 12 rfl | exact rdAt 13 rfl | exact rdOwnAt 13 rfl | exact rdAt 14 rfl | exact rdOwnAt 14 rfl | exact rdAt 15 rfl | exact rdOwnAt 15 rfl | exact rdAt 16 rfl | exact rdOwnAt 16 rfl | exact rdAt 17 rfl | exact rdOwnAt 17 rfl | exact rdAt 18 rfl | exact rdOwnAt 18 rfl | exact rdAt 19 rfl | exact rdOwnAt 19 rfl | exact rdAt 20 rfl | exact rdOwnAt 20 rfl | exact rdAt 21 rfl | exact rdOwnAt 21 rfl | exact rdAt 22 rfl | exact rdOwnAt 22 rfl | exact rdAt 23 rfl | exact rdOwnAt 23 rfl) (by first | omega | (simp; done) | (simp; omega) | (unfold maxLen; omega) | (unfold maxLen; simp; done) | (unfold maxLen; simp; omega)) (by first | omega | (simp; done) | (simp; omega) | (unfold maxLen; omega) | (unfold maxLen; simp; done) | (unfold maxLen; simp; omega)) (fun c2' => ?_)
    rw [e _ rfl]
    refine ⟨⟨(k2 + 1, c2'), by omega⟩, ?_, by simp only; omega⟩
    refine weak_mk [0, 2, 3, 4, 5, 6, 7] ?_ ?_ ?_ ?_ ?_ rfl rfl
    · repeat (first | exact trivial | refine ⟨⟨_, rfl, (by first | exact .of rfl | exact .lit rfl | exact .of (by first | ((exact congrArg (fun z => SV.v (Value.int .i64 z)) hw))) | exact .lit (by first | ((exact congrArg (fun z => SV.v (Value.int .i64 z)) hw)))), (by first | exact trivial | exact Nat.le_of_ble_eq_true rfl | exact small1 rfl)⟩, ?_⟩)
    · repeat (first | exact trivial | refine ⟨⟨(by first | exact .head _ | exact .tail _ (.head _) | exact .tail _ (.tail _ (.head _)) | exact .tail _ (.tail _ (.tail _ (.head _))) | exact .tail _ (.tail _ (.tail _ (.tail _ (.head _)))) | exact .tail _ (.tail _ (.tail _ (.tail _ (.tail _ (.head _))))) | exact .tail _ (.tail _ (.tail _ (.tail _ (.tail _ (.tail _ (.head _)))))) | exact .tail _ (.tail _ (.tail _ (.tail _ (.tail _ (.tail _ (.tail _ (.head _))))))) | exact .tail _ (.tail _ (.tail _ (.tail _ (.tail _ (.tail _ (.tail _ (.tail _ (.head _)))))))) | exact .tail _ (.tail _ (.tail _ (.tail _ (.tail _ (.tail _ (.tail _ (.tail _ (.tail _ (.head _)))))))))), Nat.le_of_ble_eq_true rfl⟩, ?_⟩)
    · repeat (first | exact trivial | refine ⟨⟨_, rfl, (by first | exact .of rfl | exact .lit rfl | exact .of (by first | ((exact congrArg (fun z => SV.v (Value.int .i64 z)) hw))) | exact .lit (by first | ((exact congrArg (fun z => SV.v (Value.int .i64 z)) hw)))), (by first | exact trivial | exact Nat.le_of_ble_eq_true rfl | exact small1 rfl)⟩, ?_⟩)
    · repeat (first | exact trivial | refine ⟨⟨_, rfl⟩, ?_⟩)
    · repeat (first | exact trivial | refine ⟨.inl ⟨_, rfl, (by first | rfl | ((exact congrArg (fun z => SV.v (Value.int .i64 z)) hw)))⟩, ?_⟩ | refine ⟨.inr ⟨Nat.le_of_ble_eq_true rfl, rfl, rfl, rfl, rfl⟩, ?_⟩)
  have hge2 : p.barriers.length ≤ k2 := by simpa using g
  have e2 : L2.take k2 = L2 := List.take_of_length_le (by omega)
  obtain ⟨L3, hL3⟩ : ∃ l, l = p.rooms.map (fun n => (⟨⟨n, [], [], [], false⟩, ⟨none, 0⟩, ⟨none, 0⟩, ⟨none, 0⟩⟩ : ChanH)) := ⟨_, rfl⟩
  have lenL3 : L3.length = p.rooms.length := by rw [hL3]; simp
  refine LoopW.mk ⟨{ q : Nat × Sl // q.1 ≤ p.rooms.length },
    fun q => .mk [(1, .p 0 0), (2, .p 1 0), (4, .p 2 0), (91, .v (p.h3.val p.rooms.length)), (92, .v (.int .i64 (p.rooms.length : Int))), (93, .v (.int .i64 (q.1.1 : Int)))] 3 0 [(0, 26, 5), (1, 34, 9), (2, 34, 9)]
      [((0, 0), .v (p.h0.val p.sems.length)), ((0, 1), .v (p.h1.val p.groups.length)), ((0, 2), .v (p.h2.val p.barriers.length)), ((0, 3), .v (p.h3.val p.rooms.length)), ((0, 4), .v (p.h4.val p.threads.length)), ((2, 0), .v (a.val LP.length)), ((2, 1), .v (s.val LS.length)), ((2, 2), .v (c0.val L0.length)), ((2, 3), .v (y.val 3)), ((2, 4), .v (c1.val L1.length)), ((2, 5), .v (c2.val L2.length)), ((2, 6), .v (q.1.2.val (L3.take q.1.1).length)), ((2, 7), .v (.slice none 0 0)), ((2, 8), .v (.int .i64 0))]
      [own q.1.2 52 cChanH 5 (L3.take q.1.1), own c2 49 cBarrierH 3 L2, own c1 47 cGroupH 2 L1, own c0 45 cSemH 3 L0, own a 3 cInt 1 LP, own s 3 cInt 1 LS, own y 57 cOnceH 4 [onceZ, onceZ, onceZ], fR (progO p)],
    fun q => p.rooms.length - q.1.1, ⟨(0, ⟨none, 0⟩), Nat.zero_le _⟩, ?_, ?_⟩
  · refine weak_mk [99, 0, 1, 2, 3, 4, 5, 6] ?_ ?_ ?_ ?_ ?_ rfl rfl
    · repeat (first | exact trivial | refine ⟨⟨_, rfl, (by first | exact .of rfl | exact .lit rfl | exact .of (by first | ((first | (rw [e2]; done)))) | exact .lit (by first | ((first | (rw [e2]; done))))), (by first | exact trivial | exact Nat.le_of_ble_eq_true rfl | exact small1 rfl)⟩, ?_⟩)
    · repeat (first | exact trivial | refine ⟨⟨(by first | exact .head _ | exact .tail _ (.head _) | exact .tail _ (.tail _ (.head _)) | exact .tail _ (.tail _ (.tail _ (.head _))) | exact .tail _ (.tail _ (.tail _ (.tail _ (.head _)))) | exact .tail _ (.tail _ (.tail _ (.tail _ (.tail _ (.head _))))) | exact .tail _ (.tail _ (.tail _ (.tail _ (.tail _ (.tail _ (.head _)))))) | exact .tail _ (.tail _ (.tail _ (.tail _ (.tail _ (.tail _ (.tail _ (.head _))))))) | exact .tail _ (.tail _ (.tail _ (.tail _ (.tail _ (.tail _ (.tail _ (.tail _ (.head _)))))))) | exact .tail _ (.tail _ (.tail _ (.tail _ (.tail _ (.tail _ (.tail _ (.tail _ (.tail _ (.head _)))))))))), Nat.le_of_ble_eq_true rfl⟩, ?_⟩)
    · repeat (first | exact trivial | refine ⟨⟨_, rfl, (by first | exact .of rfl | exact .lit rfl | exact .of (by first | ((first | (rw [e2]; done)))) | exact .lit (by first | ((first | (rw [e2]; done))))), (by first | exact trivial | exact Nat.le_of_ble_eq_true rfl | exact small1 rfl)⟩, ?_⟩)
    · repeat (first | exact trivial | refine ⟨⟨_, rfl⟩, ?_⟩)
    · repeat (first | exact trivial | refine ⟨.inl ⟨_, rfl, (by first | rfl | ((first | (rw [e2]; done))))⟩, ?_⟩ | refine ⟨.inr ⟨Nat.le_of_ble_eq_true rfl, rfl, rfl, rfl, rfl⟩, ?_⟩)
  rintro ⟨⟨k3, c3⟩, hk⟩
  simp only at hk
  refine CaseB.mk (fun g => ?_) (fun g => ?_)
  · have hlt : k3 < p.rooms.length := by simpa using g
    have e : ∀ x, x = (⟨⟨p.rooms[k3], [], [], [], false⟩, ⟨none, 0⟩, ⟨none, 0⟩, ⟨none, 0⟩⟩ : ChanH) → L3.take k3 ++ [x] = L3.take (k3 + 1) := fun x hx => by rw [hL3]; exact map_take_succ hlt rfl hx
    have hw := e_succ k3 _ hlt (by omega)
    refine stop_idx encInt tabOk rfl rfl rfl rfl rfl ⟨rfl, rfl⟩ (rdVia 7 rfl (.ofR (progO_rooms p))) k3 rfl (by first | omega | (simp; done) | (simp; omega) | (unfold maxLen; omega) | (unfold maxLen; simp; done) | (unfold maxLen; simp; omega)) (fun ad => ?_)
    refine AllSl.mk fun u => ?_
    refine stop_app encChanH 1 tabOk (ys := [⟨⟨p.rooms[k3], [], [], [], false⟩, ⟨none, 0⟩, ⟨none, 0⟩, ⟨none, 0⟩⟩]) rfl rfl rfl rfl rfl rfl rfl rfl rfl (by decide) ⟨rfl, rfl⟩ rfl (by first | exact rdAt 0 rfl | exact rdOwnAt 0 rfl | exact rdAt 1 rfl | exact rdOwnAt 1 rfl | exact rdAt 2 rfl | exact rdOwnAt 2 rfl | exact rdAt 3 rfl | exact rdOwnAt 3 rfl | exact rdAt 4 rfl | exact rdOwnAt 4 rfl | exact rdAt 5 rfl | exact rdOwnAt 5 rfl | exact rdAt 6 rfl | exact rdOwnAt 6 rfl | exact rdAt 7 rfl | exact rdOwnAt 7 rfl | exact rdAt 8 rfl | exact rdOwnAt 8 rfl | exact rdAt 9 rfl | exact rdOwnAt 9 rfl | exact rdAt 10 rfl | exact rdOwnAt 10 rfl | exact rdAt 11 rfl | exact rdOwnAt 11 rfl | exact rdAt 12 rfl | exact rdOwnAt 12 rfl | exact rdAt 13 rfl | exact rdOwnAt 13 rfl | exact rdAt 14 rfl | exact rdOwnAt 14 rfl | exact rdAt 15 rfl | exact rdOwnAt 15 rfl | exact rdAt 16 rfl | exact rdOwnAt 16 rfl | exact rdAt 17 rfl | exact rdOwnAt 17 rfl | exact rdAt 18 rfl | exact rdOwnAt 18 rfl | exact rdAt 19 rfl | exact rdOwnAt 19 rfl | exact rdAt 20 rfl | exact rdOwnAt 20 rfl | exact rdAt 21 rfl | exact rdOwnAt 21 rfl | exact rdAt 22 rfl | exact rdOwnAt 22 rfl | exact rdAt 23 rfl | exact rdOwnAt 23 rfl) (by first | omega | (simp; done) | (simp; omega) | (unfold maxLen; omega) | (unfold maxLen; simp; done) | (unfold maxLen; simp; omega)) (by first | omega | (simp; done) | (simp; omega) | (unfold maxLen; omega) | (unfold maxLen; simp; done) | (unfold maxLen; simp; omega)) (fun c3' => ?_)
    rw [e _ rfl]
    refine ⟨⟨(k3 + 1, c3'), by omega⟩, ?_, by simp only; omega⟩
    refine weak_mk [0, 2, 3, 4, 5, 6, 7, 8] ?_ ?_ ?_ ?_ ?_ rfl rfl
    · repeat (first | exact trivial | refine ⟨⟨_, rfl, (by first | exact .of rfl | exact .lit rfl | exact .of (by first | ((exact congrArg (fun z => SV.v (Value.int .i64 z)) hw))) | exact .lit (by first | ((exact congrArg (fun z => SV.v (Value.int .i64 z)) hw)))), (by first | exact trivial | exact Nat.le_of_ble_eq_true rfl | exact small1 rfl)⟩, ?_⟩)
    · repeat (first | exact trivial | refine ⟨⟨(by first | exact .head _ | exact .tail _ (.head _) | exact .tail _ (.tail _ (.head _)) | exact .tail _ (.tail _ (.tail _ (.head _))) | exact .tail _ (.tail _ (.tail _ (.tail _ (.head _)))) | exact .tail _ (.tail _ (.tail _ (.tail _ (.tail _ (.head _))))) | exact .tail _ (.tail _ (.tail _ (.tail _ (.tail _ (.tail _ (.head _)))))) | exact .tail _ (.tail _ (.tail _ (.tail _ (.tail _ (.tail _ (.tail _ (.head _))))))) | exact .tail _ (.tail _ (.tail _ (.tail _ (.tail _ (.tail _ (.tail _ (.tail _ (.head _)))))))) | exact .tail _ (.tail _ (.tail _ (.tail _ (.tail _ (.tail _ (.tail _ (.tail _ (.tail _ (.head _)))))))))), Nat.le_of_ble_eq_true rfl⟩, ?_⟩)
    · repeat (first | exact trivial | refine ⟨⟨_, rfl, (by first | exact .of rfl | exact .lit rfl | exact .of (by first | ((exact congrArg (fun z => SV.v (Value.int .i64 z)) hw))) | exact .lit (by first | ((exact congrArg (fun z => SV.v (Value.int .i64 z)) hw)))), (by first | exact trivial | exact Nat.le_of_ble_eq_true rfl | exact small1 rfl)⟩, ?_⟩)
    · repeat (first | exact trivial | refine ⟨⟨_, rfl⟩, ?_⟩)
    · repeat (first | exact trivial | refine ⟨.inl ⟨_, rfl, (by first | rfl | ((exact congrArg (fun z => SV.v (Value.int .i64 z)) hw)))⟩, ?_⟩ | refine ⟨.inr ⟨Nat.le_of_ble_eq_true rfl, rfl, rfl, rfl, rfl⟩, ?_⟩)
  have hge3 : p.rooms.length ≤ k3 := by simpa using g
  have e3 : L3.take k3 = L3 := List.take_of_length_le (by omega)
  simp only [e3]
  generalize hy : (⟨LP, LS, L0, [onceZ, onceZ, onceZ], L1, L2, L3, [], 0, a, s, c0, y, c1, c2, c3, ⟨none, 0⟩⟩ : StateH) = Y
  have nil0 : ∀ g ∈ L0.flatMap semO, nilFact g := nilOf fun x hx g hg => by
    rw [hL0] at hx; obtain ⟨n, _, rfl⟩ := List.mem_map.1 hx; simp [semO] at hg; subst hg; exact ⟨rfl, rfl, rfl, rfl⟩
  have nil1 : ∀ g ∈ L1.flatMap groupO, nilFact g := nilOf fun x hx g hg => by
    rw [hL1] at hx; obtain ⟨n, _, rfl⟩ := List.mem_map.1 hx; simp [groupO] at hg; subst hg; exact ⟨rfl, rfl, rfl, rfl⟩
  have nil2 : ∀ g ∈ L2.flatMap barrierO, nilFact g := nilOf fun x hx g hg => by
    rw [hL2] at hx; obtain ⟨n, _, rfl⟩ := List.mem_map.1 hx; simp [barrierO] at hg; subst hg; exact ⟨rfl, rfl, rfl, rfl⟩
  have nil3 : ∀ g ∈ L3.flatMap chanO, nilFact g := nilOf fun x hx g hg => by
    rw [hL3] at hx; obtain ⟨n, _, rfl⟩ := List.mem_map.1 hx; simp [chanO] at hg; rcases hg with rfl | rfl | rfl <;> exact ⟨rfl, rfl, rfl, rfl⟩
  have nil4 : ∀ g ∈ [onceZ, onceZ, onceZ].flatMap onceO, nilFact g := nilOf fun x hx g hg => by
    simp at hx; subst hx; simp [onceO, onceZ] at hg; subst hg; exact ⟨rfl, rfl, rfl, rfl⟩
  have nil5 : ∀ g ∈ [own ⟨none, 0⟩ 3 cInt 1 ([] : List Int)], nilFact g := fun g hg => by
    simp at hg; subst hg; exact ⟨rfl, rfl, rfl, rfl⟩
  refine ret_shift (.joinO [4, 5, 3, 90, 6, 91, 2, 92, 1, 93, 0, 94, 95] (Gs := [[_], [_], [_], _, [_], _, [_], _, [_], _, [_], _, _])
    ⟨.inl ⟨_, rfl, .own⟩, .inl ⟨_, rfl, .own⟩, .inl ⟨_, rfl, .own⟩, .inr ⟨Nat.le_of_ble_eq_true rfl, nil0⟩, .inl ⟨_, rfl, .own⟩, .inr ⟨Nat.le_of_ble_eq_true rfl, nil4⟩, .inl ⟨_, rfl, .own⟩, .inr ⟨Nat.le_of_ble_eq_true rfl, nil1⟩, .inl ⟨_, rfl, .own⟩, .inr ⟨Nat.le_of_ble_eq_true rfl, nil2⟩, .inl ⟨_, rfl, .own⟩, .inr ⟨Nat.le_of_ble_eq_true rfl, nil3⟩, .inr ⟨Nat.le_of_ble_eq_true rfl, nil5⟩, trivial⟩ rfl (G := stateO Y) (.of_eq (by rw [← hy]; simp [stateO, semsO, oncesO, groupsO, barriersO, chansO, nestO]))) ?_
  have hYp : Y.pure = start p.pure := by
    rw [← hy]
    simp [StateH.pure, start, ProgH.pure, hLP, hLS, hL0, hL1, hL2, hL3, onceZ]
  exact retw [0] ⟨Y, true, by rw [← hy], tyes ok, fun _ => hYp, fun e => (by cases e), rfl⟩ ⟨.inl ⟨_, rfl, rfl⟩, trivial⟩ rfl ⟨rfl, trivial⟩ (fun _ => rfl)

end Go.Proofs.Ytjkkoonennpceaa

namespace Go.Proofs.Ytjkkoonennpceaa

open Go Go.Sx Go.RowKit

set_option maxRecDepth 100000 in
theorem l7Rest_c (p : ProgH) (t c : Int) (k : Nat) (hk : k < p.threads.length) (ht : t = (k : Int)) (w : World) (h : At w [fR (progO p)]) :
    Calls Try.prog 14 #[progV p, .int .i64 t, .int .i64 c] w (Ret w fun v L => v = .int .i64 (if c = ((p.threads[k]).m.length : Int) then 3 else 0) ∧ L = []) := by
  refine calls3 Try.func14 rfl tabOk w _ rfl _ rfl _ h ⟨rfl, rfl, trivial⟩ _ _ _ (by decide) ?_
  refine stop_idx encOpSH tabOk rfl rfl rfl rfl rfl ⟨rfl, rfl⟩ (rdVia 0 rfl (.trans (.R_R (progO_threads p)) (.ofR nest_h))) k (ht) (by first | omega | (simp; done) | (simp; omega) | (unfold maxLen; omega) | (unfold maxLen; simp; done) | (unfold maxLen; simp; omega)) (fun ad => ?_)
  refine CaseB.mk (fun g => ?_) (fun g => ?_)
  · have q : c = ((p.threads[k]).m.length : Int) := by simpa using g
    exact retw [] ⟨by rw [if_pos q], rfl⟩ trivial rfl trivial (fun _ => rfl)
  · have q : ¬ c = ((p.threads[k]).m.length : Int) := by simpa using g
    exact retw [] ⟨by rw [if_neg q], rfl⟩ trivial rfl trivial (fun _ => rfl)

set_option maxRecDepth 100000 in
theorem newSem_c (n : Int) (h0 : 1 ≤ n) (h1 : n ≤ 9) (w : World) : Calls Try.prog 15 #[.int .i64 n] w (Ret w fun v L => ∃ y : Sl, v = .tuple #[semV ⟨n, n, []⟩ y, .bool true] ∧ L = [own y 98 cWaiter 2 ([] : List Waiter)]) := by
  refine calls1 Try.func15 rfl tabOk w _ rfl _ rfl [] trivial trivial _ (by decide) ?_
  refine CaseB.mk (fun g => by simp at g; omega) (fun g => ?_)
  refine CaseB.mk (fun g => by simp at g; omega) (fun g => ?_)
  refine AllSl.mk fun y => ?_
  exact retw [0] ⟨y, rfl, rfl⟩ ⟨.inl ⟨_, rfl, rfl⟩, trivial⟩ rfl ⟨rfl, trivial⟩ (fun _ => rfl)

set_option maxRecDepth 100000 in
theorem newBarrier_c (n : Int) (h0 : 1 ≤ n) (h1 : n ≤ 6) (w : World) : Calls Try.prog 16 #[.int .i64 n] w (Ret w fun v L => ∃ y : Sl, v = .tuple #[barrierV ⟨n, 0, []⟩ y, .bool true] ∧ L = [own y 3 cInt 1 ([] : List Int)]) := by
  refine calls1 Try.func16 rfl tabOk w _ rfl _ rfl [] trivial trivial _ (by decide) ?_
  refine CaseB.mk (fun g => by simp at g; omega) (fun g => ?_)
  refine CaseB.mk (fun g => by simp at g; omega) (fun g => ?_)
  refine AllSl.mk fun y => ?_
  exact retw [0] ⟨y, rfl, rfl⟩ ⟨.inl ⟨_, rfl, rfl⟩, trivial⟩ rfl ⟨rfl, trivial⟩ (fun _ => rfl)

set_option maxRecDepth 100000 in
theorem newChan_c (n : Int) (h0 : 0 ≤ n) (h1 : n ≤ 4) (w : World) : Calls Try.prog 17 #[.int .i64 n] w (Ret w fun v L => ∃ y z u : Sl, v = .tuple #[chanV ⟨n, [], [], [], false⟩ y z u, .bool true] ∧ L = [own y 3 cInt 1 ([] : List Int), own z 101 cLet 2 ([] : List Letter), own u 3 cInt 1 ([] : List Int)]) := by
  refine calls1 Try.func17 rfl tabOk w _ rfl _ rfl [] trivial trivial _ (by decide) ?_
  refine CaseB.mk (fun g => by simp at g; omega) (fun g => ?_)
  refine CaseB.mk (fun g => by simp at g; omega) (fun g => ?_)
  refine AllSl.mk fun y => ?_
  refine AllSl.mk fun z => ?_
  refine AllSl.mk fun u => ?_
  exact retw [2, 1, 0] ⟨y, z, u, rfl, rfl⟩ ⟨.inl ⟨_, rfl, rfl⟩, .inl ⟨_, rfl, rfl⟩, .inl ⟨_, rfl, rfl⟩, trivial⟩ rfl ⟨rfl, rfl, rfl, trivial⟩ (fun _ => rfl)

set_option maxHeartbeats 16000000 in
set_option maxRecDepth 100000 in
theorem startProgS_c (p : ProgH) (w : World) (h : At w [fR (progO p)]) (hs : p.sems.length ≤ 1048576 ∧ p.groups.length ≤ 1048576 ∧ p.barriers.length ≤ 1048576 ∧ p.rooms.length ≤ 1048576) :
    Calls Try.prog 6 #[progV p] w (Ret w (Started p.pure)) := by
  refine calls1 Try.func6 rfl tabOk w _ rfl _ rfl _ h ⟨rfl, rfl, trivial⟩ _ (by decide) ?_
  refine stop_call _ cl13 rfl rfl rfl rfl ⟨rfl, rfl⟩ (fun A w hW => progValidS_c p w ⟨hW.get 0 rfl (.refl _), trivial⟩ hs) ?_
  rintro v L ⟨b, rfl, hb, rfl⟩
  refine CaseB.mk (fun g => ?_) (fun g => ?_)
  · have hn : ¬ ProgOk p.pure := fun e => by rw [hb.2 e] at g; cases g
    refine ret_shift (.joinO [90] (Gs := [_]) ⟨.inr ⟨Nat.le_of_ble_eq_true rfl, zero_nil⟩, trivial⟩ rfl (G := stateO StateH.zero) (.of_eq (by simp))) ?_
    exact retw [0] ⟨StateH.zero, false, rfl, tno hn, fun e => (by cases e), fun _ => rfl, rfl⟩ ⟨.inl ⟨_, rfl, rfl⟩, trivial⟩ rfl ⟨rfl, trivial⟩ (fun _ => rfl)
  have ok := hb.1 (by simpa using g)
  have n4 : p.threads.length ≤ 4 := by have := ok.n4; simpa [ProgH.pure] using this
  have m0 : p.sems.length ≤ 3 := ok.sems.1
  have m1 : p.groups.length ≤ 3 := ok.groups.1
  have m2 : p.barriers.length ≤ 3 := ok.barriers.1
  have m3 : p.rooms.length ≤ 3 := ok.rooms.1
  obtain ⟨LP, hLP⟩ : ∃ l, l = p.threads.map (fun _ => (0 : Int)) := ⟨_, rfl⟩
  obtain ⟨LS, hLS⟩ : ∃ l, l = p.threads.map (fun x => rest x.m) := ⟨_, rfl⟩
  have lP : LP.length = p.threads.length := by rw [hLP]; simp
  have lS : LS.length = p.threads.length := by rw [hLS]; simp
  refine LoopW.mk ⟨{ q : Nat × Sl × Sl // q.1 ≤ p.threads.length },
    fun q => .mk [(1, .p 0 0), (2, .p 1 0), (4, .p 2 0), (5, .v (.int .i64 (q.1.1 : Int)))] 3 0 [(0, 26, 5), (1, 34, 9), (2, 34, 9)]
      [((0, 0), .v (p.h0.val p.sems.length)), ((0, 1), .v (p.h1.val p.groups.length)), ((0, 2), .v (p.h2.val p.barriers.length)), ((0, 3), .v (p.h3.val p.rooms.length)), ((0, 4), .v (p.h4.val p.threads.length)), ((2, 0), .v (q.1.2.1.val (LP.take q.1.1).length)), ((2, 1), .v (q.1.2.2.val (LS.take q.1.1).length)), ((2, 2), .v (.slice none 0 0)), ((2, 3), .v (.slice none 0 0)), ((2, 4), .v (.slice none 0 0)), ((2, 5), .v (.slice none 0 0)), ((2, 6), .v (.slice none 0 0)), ((2, 7), .v (.slice none 0 0)), ((2, 8), .v (.int .i64 0))]
      [own q.1.2.1 3 cInt 1 (LP.take q.1.1), own q.1.2.2 3 cInt 1 (LS.take q.1.1), fR (progO p)],
    fun q => p.threads.length - q.1.1, ⟨(0, ⟨none, 0⟩, ⟨none, 0⟩), Nat.zero_le _⟩, ?_, ?_⟩
  · refine weak_mk [99, 98, 0] ?_ ?_ ?_ ?_ ?_ rfl rfl
    · repeat (first | exact trivial | refine ⟨⟨_, rfl, (by first | exact .of rfl | exact .lit rfl | exact .of (by first | (rfl)) | exact .lit (by first | (rfl))), (by first | exact trivial | exact Nat.le_of_ble_eq_true rfl | exact small1 rfl)⟩, ?_⟩)
    · repeat (first | exact trivial | refine ⟨⟨(by first | exact .head _ | exact .tail _ (.head _) | exact .tail _ (.tail _ (.head _)) | exact .tail _ (.tail _ (.tail _ (.head _))) | exact .tail _ (.tail _ (.tail _ (.tail _ (.head _)))) | exact .tail _ (.tail _ (.tail _ (.tail _ (.tail _ (.head _))))) | exact .tail _ (.tail _ (.tail _ (.tail _ (.tail _ (.tail _ (.head _)))))) | exact .tail _ (.tail _ (.tail _ (.tail _ (.tail _ (.tail _ (.tail _ (.head _))))))) | exact .tail _ (.tail _ (.tail _ (.tail _ (.tail _ (.tail _ (.tail _ (.tail _ (.head _)))))))) | exact .tail _ (.tail _ (.tail _ (.tail _ (.tail _ (.tail _ (.tail _ (.tail _ (.tail _ (.head _)))))))))), Nat.le_of_ble_eq_true rfl⟩, ?_⟩)
    · repeat (first | exact trivial | refine ⟨⟨_, rfl, (by first | exact .of rfl | exact .lit rfl | exact .of (by first | (rfl)) | exact .lit (by first | (rfl))), (by first | exact trivial | exact Nat.le_of_ble_eq_true rfl | exact small1 rfl)⟩, ?_⟩)
    · repeat (first | exact trivial | refine ⟨⟨_, rfl⟩, ?_⟩)
    · repeat (first | exact trivial | refine ⟨.inl ⟨_, rfl, (by first | rfl | (rfl))⟩, ?_⟩ | refine ⟨.inr ⟨Nat.le_of_ble_eq_true rfl, rfl, rfl, rfl, rfl⟩, ?_⟩)
  rintro ⟨⟨k, a, s⟩, hk⟩
  simp only at hk
  refine CaseB.mk (fun g => ?_) (fun g => ?_)
  · have hlt : k < p.threads.length := by simpa using g
    have eP : LP.take k ++ [0] = LP.take (k + 1) := by rw [hLP]; exact map_take_succ hlt rfl rfl
    have eS : ∀ x, x = rest (p.threads[k]).m → LS.take k ++ [x] = LS.take (k + 1) := fun x hx => by rw [hLS]; exact map_take_succ hlt rfl hx
    have hw := e_succ k _ hlt (by omega)
    refine AllSl.mk fun u => ?_
    refine stop_app encInt 1 tabOk (ys := [0]) rfl rfl rfl rfl rfl rfl rfl rfl rfl (by decide) ⟨rfl, rfl⟩ rfl (by first | exact rdAt 0 rfl | exact rdOwnAt 0 rfl | exact rdAt 1 rfl | exact rdOwnAt 1 rfl | exact rdAt 2 rfl | exact rdOwnAt 2 rfl | exact rdAt 3 rfl | exact rdOwnAt 3 rfl | exact rdAt 4 rfl | exact rdOwnAt 4 rfl | exact rdAt 5 rfl | exact rdOwnAt 5 rfl | exact rdAt 6 rfl | exact rdOwnAt 6 rfl | exact rdAt 7 rfl | exact rdOwnAt 7 rfl | exact rdAt 8 rfl | exact rdOwnAt 8 rfl | exact rdAt 9 rfl | exact rdOwnAt 9 rfl | exact rdAt 10 rfl | exact rdOwnAt 10 rfl | exact rdAt 11 rfl | exact rdOwnAt 11 rfl | exact rdAt 12 rfl | exact rdOwnAt 12 rfl | exact rdAt 13 rfl | exact rdOwnAt 13 rfl | exact rdAt 14 rfl | exact rdOwnAt 14 rfl | exact rdAt 15 rfl | exact rdOwnAt 15 rfl | exact rdAt 16 rfl | exact rdOwnAt 16 rfl | exact rdAt 17 rfl | exact rdOwnAt 17 rfl | exact rdAt 18 rfl | exact rdOwnAt 18 rfl | exact rdAt 19 rfl | exact rdOwnAt 19 rfl | exact rdAt 20 rfl | exact rdOwnAt 20 rfl | exact rdAt 21 rfl | exact rdOwnAt 21 rfl | exact rdAt 22 rfl | exact rdOwnAt 22 rfl | exact rdAt 23 rfl | exact rdOwnAt 23 rfl) (by first | omega | (simp; done) | (simp; omega) | (unfold maxLen; omega) | (unfold maxLen; simp; done) | (unfold maxLen; simp; omega)) (by first | omega | (simp; done) | (simp; omega) | (unfold maxLen; omega) | (unfold maxLen; simp; done) | (unfold maxLen; simp; omega)) (fun a2 => ?_)
    rw [eP]
    have hr : (if (0 : Int) = ((p.threads[k]).m.length : Int) then (3 : Int) else 0) = rest (p.threads[k]).m := by
      simp only [rest]
      by_cases h0 : (p.threads[k]).m.length = 0
      · simp [h0]
      · rw [if_neg h0, if_neg (by omega)]
    refine draw_start tabOk (by kernel_rfl) (by kernel_rfl) (by kernel_rfl) 200 [((0, 0), .v (p.h0.val p.sems.length)), ((0, 1), .v (p.h1.val p.groups.length)), ((0, 2), .v (p.h2.val p.barriers.length)), ((0, 3), .v (p.h3.val p.rooms.length)), ((0, 4), .v (p.h4.val p.threads.length))] [3] [_] ⟨⟨_, rfl, rfl, (by first | exact trivial | exact Nat.le_of_ble_eq_true rfl)⟩, ⟨_, rfl, rfl, (by first | exact trivial | exact Nat.le_of_ble_eq_true rfl)⟩, ⟨_, rfl, rfl, (by first | exact trivial | exact Nat.le_of_ble_eq_true rfl)⟩, ⟨_, rfl, rfl, (by first | exact trivial | exact Nat.le_of_ble_eq_true rfl)⟩, ⟨_, rfl, rfl, (by first | exact trivial | exact Nat.le_of_ble_eq_true rfl)⟩, trivial⟩ ⟨⟨_, rfl⟩, ⟨_, rfl⟩, ⟨_, rfl⟩, ⟨_, rfl⟩, ⟨_, rfl⟩, trivial⟩ ⟨rfl, trivial⟩ rfl ?_
    refine BothW.mk ?_ ?_
    all_goals
      refine d_call _ cl14 rfl rfl rfl rfl ⟨rfl, rfl⟩ (fun A w hW => l7Rest_c p _ 0 k hlt rfl w ⟨hW.get 3 rfl (.refl _), trivial⟩) ?_
      rintro v L ⟨rfl, rfl⟩
      rw [hr]
    rotate_left
    · refine BothW.mk ?_ ?_
      all_goals
        refine AllSl.mk fun u2 => ?_
        refine d_app (ti := tiOf tab) encInt 3 tabOk (ys := [rest (p.threads[k]).m]) rfl rfl rfl rfl rfl rfl rfl rfl rfl (by decide) ⟨rfl, rfl⟩ rfl (by first | exact rdAt 0 rfl | exact rdOwnAt 0 rfl | exact rdAt 1 rfl | exact rdOwnAt 1 rfl | exact rdAt 2 rfl | exact rdOwnAt 2 rfl | exact rdAt 3 rfl | exact rdOwnAt 3 rfl | exact rdAt 4 rfl | exact rdOwnAt 4 rfl | exact rdAt 5 rfl | exact rdOwnAt 5 rfl | exact rdAt 6 rfl | exact rdOwnAt 6 rfl | exact rdAt 7 rfl | exact rdOwnAt 7 rfl | exact rdAt 8 rfl | exact rdOwnAt 8 rfl | exact rdAt 9 rfl | exact rdOwnAt 9 rfl | exact rdAt 10 rfl | exact rdOwnAt 10 rfl | exact rdAt 11 rfl | exact rdOwnAt 11 rfl | exact rdAt 12 rfl | exact rdOwnAt 12 rfl | exact rdAt 13 rfl | exact rdOwnAt 13 rfl | exact rdAt 14 rfl | exact rdOwnAt 14 rfl | exact rdAt 15 rfl | exact rdOwnAt 15 rfl | exact rdAt 16 rfl | exact rdOwnAt 16 rfl | exact rdAt 17 rfl | exact rdOwnAt 17 rfl | exact rdAt 18 rfl | exact rdOwnAt 18 rfl | exact rdAt 19 rfl | exact rdOwnAt 19 rfl | exact rdAt 20 rfl | exact rdOwnAt 20 rfl | exact rdAt 21 rfl | exact rdOwnAt 21 rfl | exact rdAt 22 rfl | exact rdOwnAt 22 rfl | exact rdAt 23 rfl | exact rdOwnAt 23 rfl) (by first | omega | (simp; done) | (simp; omega) | (unfold maxLen; omega) | (unfold maxLen; simp; done) | (unfold maxLen; simp; omega)) (by first | omega | (simp; done) | (simp; omega) | (unfold maxLen; omega) | (unfold maxLen; simp; done) | (unfold maxLen; simp; omega)) (by simp [keepF]) (fun s2 => ?_)
        rw [eS _ rfl]
        refine ⟨⟨(k + 1, a2, s2), by omega⟩, ?_, by simp only; omega⟩
        refine weak_mk [2, 0, 4] ?_ ?_ ?_ ?_ ?_ rfl rfl
        · repeat (first | exact trivial | refine ⟨⟨_, rfl, (by first | exact .of rfl | exact .lit rfl | exact .of (by first | ((exact congrArg (fun z => SV.v (Value.int .i64 z)) hw))) | exact .lit (by first | ((exact congrArg (fun z => SV.v (Value.int .i64 z)) hw)))), (by first | exact trivial | exact Nat.le_of_ble_eq_true rfl | exact small1 rfl)⟩, ?_⟩)
        · repeat (first | exact trivial | refine ⟨⟨(by first | exact .head _ | exact .tail _ (.head _) | exact .tail _ (.tail _ (.head _)) | exact .tail _ (.tail _ (.tail _ (.head _))) | exact .tail _ (.tail _ (.tail _ (.tail _ (.head _)))) | exact .tail _ (.tail _ (.tail _ (.tail _ (.tail _ (.head _))))) | exact .tail _ (.tail _ (.tail _ (.tail _ (.tail _ (.tail _ (.head _)))))) | exact .tail _ (.tail _ (.tail _ (.tail _ (.tail _ (.tail _ (.tail _ (.head _))))))) | exact .tail _ (.tail _ (.tail _ (.tail _ (.tail _ (.tail _ (.tail _ (.tail _ (.head _)))))))) | exact .tail _ (.tail _ (.tail _ (.tail _ (.tail _ (.tail _ (.tail _ (.tail _ (.tail _ (.head _)))))))))), Nat.le_of_ble_eq_true rfl⟩, ?_⟩)
        · repeat (first | exact trivial | refine ⟨⟨_, rfl, (by first | exact .of rfl | exact .lit rfl | exact .of (by first | ((exact congrArg (fun z => SV.v (Value.int .i64 z)) hw))) | exact .lit (by first | ((exact congrArg (fun z => SV.v (Value.int .i64 z)) hw)))), (by first | exact trivial | exact Nat.le_of_ble_eq_true rfl | exact small1 rfl)⟩, ?_⟩)
        · repeat (first | exact trivial | refine ⟨⟨_, rfl⟩, ?_⟩)
        · repeat (first | exact trivial | refine ⟨.inl ⟨_, rfl, (by first | rfl | ((exact congrArg (fun z => SV.v (Value.int .i64 z)) hw)))⟩, ?_⟩ | refine ⟨.inr ⟨Nat.le_of_ble_eq_true rfl, rfl, rfl, rfl, rfl⟩, ?_⟩)
    refine AllSl.mk fun u2 => ?_
    refine d_app (ti := tiOf tab) encInt 3 tabOk (ys := [rest (p.threads[k]).m]) rfl rfl rfl rfl rfl rfl rfl rfl rfl (by decide) ⟨rfl, rfl⟩ rfl (by first | exact rdAt 0 rfl | exact rdOwnAt 0 rfl | exact rdAt 1 rfl | exact rdOwnAt 1 rfl | exact rdAt 2 rfl | exact rdOwnAt 2 rfl | exact rdAt 3 rfl | exact rdOwnAt 3 rfl | exact rdAt 4 rfl | exact rdOwnAt 4 rfl | exact rdAt 5 rfl | exact rdOwnAt 5 rfl | exact rdAt 6 rfl | exact rdOwnAt 6 rfl | exact rdAt 7 rfl | exact rdOwnAt 7 rfl | exact rdAt 8 rfl | exact rdOwnAt 8 rfl | exact rdAt 9 rfl | exact rdOwnAt 9 rfl | exact rdAt 10 rfl | exact rdOwnAt 10 rfl | exact rdAt 11 rfl | exact rdOwnAt 11 rfl | exact rdAt 12 rfl | exact rdOwnAt 12 rfl | exact rdAt 13 rfl | exact rdOwnAt 13 rfl | exact rdAt 14 rfl | exact rdOwnAt 14 rfl | exact rdAt 15 rfl | exact rdOwnAt 15 rfl | exact rdAt 16 rfl | exact rdOwnAt 16 rfl | exact rdAt 17 rfl | exact rdOwnAt 17 rfl | exact rdAt 18 rfl | exact rdOwnAt 18 rfl | exact rdAt 19 rfl | exact rdOwnAt 19 rfl | exact rdAt 20 rfl | exact rdOwnAt 20 rfl | exact rdAt 21 rfl | exact rdOwnAt 21 rfl | exact rdAt 22 rfl | exact rdOwnAt 22 rfl | exact rdAt 23 rfl | exact rdOwnAt 23 rfl) (by first | omega | (simp; done) | (simp; omega) | (unfold maxLen; omega) | (unfold maxLen; simp; done) | (unfold maxLen; simp; omega)) (by first | omega | (simp; done) | (simp; omega) | (unfold maxLen; omega) | (unfold maxLen; simp; done) | (unfold maxLen; simp; omega)) (by simp [keepF]) (fun s2 => ?_)
    rw [eS _ rfl]
    refine ⟨⟨(k + 1, a2, s2), by omega⟩, ?_, by simp only; omega⟩
    refine weak_mk [2, 0, 4] ?_ ?_ ?_ ?_ ?_ rfl rfl
    · repeat (first | exact trivial | refine ⟨⟨_, rfl, (by first | exact .of rfl | exact .lit rfl | exact .of (by first | ((exact congrArg (fun z => SV.v (Value.int .i64 z)) hw))) | exact .lit (by first | ((exact congrArg (fun z => SV.v (Value.int .i64 z)) hw)))), (by first | exact trivial | exact Nat.le_of_ble_eq_true rfl | exact small1 rfl)⟩, ?_⟩)
    · repeat (first | exact trivial | refine ⟨⟨(by first | exact .head _ | exact .tail _ (.head _) | exact .tail _ (.tail _ (.head _)) | exact .tail _ (.tail _ (.tail _ (.head _))) | exact .tail _ (.tail _ (.tail _ (.tail _ (.head _)))) | exact .tail _ (.tail _ (.tail _ (.tail _ (.tail _ (.head _))))) | exact .tail _ (.tail _ (.tail _ (.tail _ (.tail _ (.tail _ (.head _)))))) | exact .tail _ (.tail _ (.tail _ (.tail _ (.tail _ (.tail _ (.tail _ (.head _))))))) | exact .tail _ (.tail _ (.tail _ (.tail _ (.tail _ (.tail _ (.tail _ (.tail _ (.head _)))))))) | exact .tail _ (.tail _ (.tail _ (.tail _ (.tail _ (.tail _ (.tail _ (.tail _ (.tail _ (.head _)))))))))), Nat.le_of_ble_eq_true rfl⟩, ?_⟩)
    · repeat (first | exact trivial | refine ⟨⟨_, rfl, (by first | exact .of rfl | exact .lit rfl | exact .of (by first | ((exact congrArg (fun z => SV.v (Value.int .i64 z)) hw))) | exact .lit (by first | ((exact congrArg (fun z => SV.v (Value.int .i64 z)) hw)))), (by first | exact trivial | exact Nat.le_of_ble_eq_true rfl | exact small1 rfl)⟩, ?_⟩)
    · repeat (first | exact trivial | refine ⟨⟨_, rfl⟩, ?_⟩)
    · repeat (first | exact trivial | refine ⟨.inl ⟨_, rfl, (by first | rfl | ((exact congrArg (fun z => SV.v (Value.int .i64 z)) hw)))⟩, ?_⟩ | refine ⟨.inr ⟨Nat.le_of_ble_eq_true rfl, rfl, rfl, rfl, rfl⟩, ?_⟩)
  have hge : p.threads.length ≤ k := by simpa using g
  have eP : LP.take k = LP := List.take_of_length_le (by omega)
  have eS : LS.take k = LS := List.take_of_length_le (by omega)
  refine LoopW.mk ⟨{ q : Nat × Sl × List SemH // q.1 ≤ p.sems.length ∧ q.2.2.map (·.m) = (p.sems.map fun n => (⟨n, n, []⟩ : Sem)).take q.1 },
    fun q => .mk [(1, .p 0 0), (2, .p 1 0), (4, .p 2 0), (6, .v (.int .i64 (q.1.1 : Int)))] 3 0 [(0, 26, 5), (1, 34, 9), (2, 34, 9)]
      [((0, 0), .v (p.h0.val p.sems.length)), ((0, 1), .v (p.h1.val p.groups.length)), ((0, 2), .v (p.h2.val p.barriers.length)), ((0, 3), .v (p.h3.val p.rooms.length)), ((0, 4), .v (p.h4.val p.threads.length)), ((2, 0), .v (a.val LP.length)), ((2, 1), .v (s.val LS.length)), ((2, 2), .v (q.1.2.1.val q.1.2.2.length)), ((2, 3), .v (.slice none 0 0)), ((2, 4), .v (.slice none 0 0)), ((2, 5), .v (.slice none 0 0)), ((2, 6), .v (.slice none 0 0)), ((2, 7), .v (.slice none 0 0)), ((2, 8), .v (.int .i64 0))]
      [own q.1.2.1 45 cSemH 3 q.1.2.2, fO (q.1.2.2.flatMap semO), own a 3 cInt 1 LP, own s 3 cInt 1 LS, fR (progO p)],
    fun q => p.sems.length - q.1.1, ⟨(0, ⟨none, 0⟩, []), Nat.zero_le _, by simp⟩, ?_, ?_⟩
  · refine weak_shift (.joinO [] (Gs := []) trivial rfl (.refl _)) ?_
    refine weak_mk [99, 0, 1, 2, 3] ?_ ?_ ?_ ?_ ?_ rfl rfl
    · repeat (first | exact trivial | refine ⟨⟨_, rfl, (by first | exact .of rfl | exact .lit rfl | exact .of (by first | ((first | (rw [eP]; done) | (rw [eS]; done)))) | exact .lit (by first | ((first | (rw [eP]; done) | (rw [eS]; done))))), (by first | exact trivial | exact Nat.le_of_ble_eq_true rfl | exact small1 rfl)⟩, ?_⟩)
    · repeat (first | exact trivial | refine ⟨⟨(by first | exact .head _ | exact .tail _ (.head _) | exact .tail _ (.tail _ (.head _)) | exact .tail _ (.tail _ (.tail _ (.head _))) | exact .tail _ (.tail _ (.tail _ (.tail _ (.head _)))) | exact .tail _ (.tail _ (.tail _ (.tail _ (.tail _ (.head _))))) | exact .tail _ (.tail _ (.tail _ (.tail _ (.tail _ (.tail _ (.head _)))))) | exact .tail _ (.tail _ (.tail _ (.tail _ (.tail _ (.tail _ (.tail _ (.head _))))))) | exact .tail _ (.tail _ (.tail _ (.tail _ (.tail _ (.tail _ (.tail _ (.tail _ (.head _)))))))) | exact .tail _ (.tail _ (.tail _ (.tail _ (.tail _ (.tail _ (.tail _ (.tail _ (.tail _ (.head _)))))))))), Nat.le_of_ble_eq_true rfl⟩, ?_⟩)
    · repeat (first | exact trivial | refine ⟨⟨_, rfl, (by first | exact .of rfl | exact .lit rfl | exact .of (by first | ((first | (rw [eP]; done) | (rw [eS]; done)))) | exact .lit (by first | ((first | (rw [eP]; done) | (rw [eS]; done))))), (by first | exact trivial | exact Nat.le_of_ble_eq_true rfl | exact small1 rfl)⟩, ?_⟩)
    · repeat (first | exact trivial | refine ⟨⟨_, rfl⟩, ?_⟩)
    · repeat (first | exact trivial | refine ⟨.inl ⟨_, rfl, (by first | rfl | ((first | (rw [eP]; done) | (rw [eS]; done))))⟩, ?_⟩ | refine ⟨.inr ⟨Nat.le_of_ble_eq_true rfl, rfl, rfl, rfl, rfl⟩, ?_⟩)
  rintro ⟨⟨k0, c0, l0⟩, hk, hl0⟩
  simp only at hk hl0
  have ln0 : l0.length = k0 := by have := congrArg List.length hl0; simp at this; omega
  refine CaseB.mk (fun g => ?_) (fun g => ?_)
  · have hlt : k0 < p.sems.length := by simpa using g
    have hw := e_succ k0 _ hlt (by omega)
    have hv := ok.sems.2 _ (List.getElem_mem hlt)
    refine stop_idx encInt tabOk rfl rfl rfl rfl rfl ⟨rfl, rfl⟩ (rdVia 4 rfl (.ofR (progO_sems p))) k0 rfl (by first | omega | (simp; done) | (simp; omega) | (unfold maxLen; omega) | (unfold maxLen; simp; done) | (unfold maxLen; simp; omega)) (fun ad => ?_)
    refine stop_call _ cl15 rfl rfl rfl rfl ⟨rfl, rfl⟩ (fun A w hW => newSem_c _ hv.1 hv.2 w) ?_
    rintro v L ⟨y, rfl, rfl⟩
    refine AllSl.mk fun r => ?_
    generalize hx : (⟨⟨p.sems[k0], p.sems[k0], []⟩, y⟩ : SemH) = x
    have hxm : x.m = ⟨p.sems[k0], p.sems[k0], []⟩ := by rw [← hx]
    refine stop_app encSemH 2 tabOk (ys := [x]) rfl rfl rfl rfl rfl (by rw [← hx]; rfl) rfl rfl rfl (by decide) ⟨rfl, rfl⟩ rfl (by rw [← hx]; exact rdOwnAt 0 rfl) (by simp only [List.length_cons, List.length_nil]; omega) (by simp only [List.length_cons, List.length_nil]; unfold maxLen; omega) (fun c' => ?_)
    refine ⟨⟨(k0 + 1, c', l0 ++ [x]), by omega, by rw [List.map_append]; exact map_take_succ hlt hl0 hxm⟩, ?_, by simp only; omega⟩
    refine weak_shift (.joinO [2, 3] (Gs := [[_], _]) ⟨.inl ⟨_, rfl, .own⟩, .inl ⟨_, rfl, .o⟩, trivial⟩ rfl (G := (l0 ++ [x]).flatMap semO) (by subst hx; rw [List.flatMap_append]; exact (List.Perm.of_eq (by simp [semO])).trans List.perm_append_comm)) ?_
    refine weak_mk [1, 0, 3, 4, 5] ?_ ?_ ?_ ?_ ?_ rfl rfl
    · repeat (first | exact trivial | refine ⟨⟨_, rfl, (by first | exact .of rfl | exact .lit rfl | exact .of (by first | ((exact congrArg (fun z => SV.v (Value.int .i64 z)) hw))) | exact .lit (by first | ((exact congrArg (fun z => SV.v (Value.int .i64 z)) hw)))), (by first | exact trivial | exact Nat.le_of_ble_eq_true rfl | exact small1 rfl)⟩, ?_⟩)
    · repeat (first | exact trivial | refine ⟨⟨(by first | exact .head _ | exact .tail _ (.head _) | exact .tail _ (.tail _ (.head _)) | exact .tail _ (.tail _ (.tail _ (.head _))) | exact .tail _ (.tail _ (.tail _ (.tail _ (.head _)))) | exact .tail _ (.tail _ (.tail _ (.tail _ (.tail _ (.head _))))) | exact .tail _ (.tail _ (.tail _ (.tail _ (.tail _ (.tail _ (.head _)))))) | exact .tail _ (.tail _ (.tail _ (.tail _ (.tail _ (.tail _ (.tail _ (.head _))))))) | exact .tail _ (.tail _ (.tail _ (.tail _ (.tail _ (.tail _ (.tail _ (.tail _ (.head _)))))))) | exact .tail _ (.tail _ (.tail _ (.tail _ (.tail _ (.tail _ (.tail _ (.tail _ (.tail _ (.head _)))))))))), Nat.le_of_ble_eq_true rfl⟩, ?_⟩)
    · repeat (first | exact trivial | refine ⟨⟨_, rfl, (by first | exact .of rfl | exact .lit rfl | exact .of (by first | ((exact congrArg (fun z => SV.v (Value.int .i64 z)) hw))) | exact .lit (by first | ((exact congrArg (fun z => SV.v (Value.int .i64 z)) hw)))), (by first | exact trivial | exact Nat.le_of_ble_eq_true rfl | exact small1 rfl)⟩, ?_⟩)
    · repeat (first | exact trivial | refine ⟨⟨_, rfl⟩, ?_⟩)
    · repeat (first | exact trivial | refine ⟨.inl ⟨_, rfl, (by first | rfl | ((exact congrArg (fun z => SV.v (Value.int .i64 z)) hw)))⟩, ?_⟩ | refine ⟨.inr ⟨Nat.le_of_ble_eq_true rfl, rfl, rfl, rfl, rfl⟩, ?_⟩)
  have hge0 : p.sems.length ≤ k0 := by simpa using g
  have m0' : l0.map (·.m) = p.sems.map fun n => (⟨n, n, []⟩ : Sem) := by rw [hl0, List.take_of_length_le (by simpa using hge0)]
  refine LoopW.mk ⟨{ q : Nat × Sl // q.1 ≤ 3 },
    fun q => .mk [(1, .p 0 0), (2, .p 1 0), (4, .p 2 0), (9, .v (.int .i64 (q.1.1 : Int)))] 3 0 [(0, 26, 5), (1, 34, 9), (2, 34, 9)]
      [((0, 0), .v (p.h0.val p.sems.length)), ((0, 1), .v (p.h1.val p.groups.length)), ((0, 2), .v (p.h2.val p.barriers.length)), ((0, 3), .v (p.h3.val p.rooms.length)), ((0, 4), .v (p.h4.val p.threads.length)), ((2, 0), .v (a.val LP.length)), ((2, 1), .v (s.val LS.length)), ((2, 2), .v (c0.val l0.length)), ((2, 3), .v (q.1.2.val (List.replicate q.1.1 onceZ).length)), ((2, 4), .v (.slice none 0 0)), ((2, 5), .v (.slice none 0 0)), ((2, 6), .v (.slice none 0 0)), ((2, 7), .v (.slice none 0 0)), ((2, 8), .v (.int .i64 0))]
      [own q.1.2 57 cOnceH 4 (List.replicate q.1.1 onceZ), own c0 45 cSemH 3 l0, fO (l0.flatMap semO), own a 3 cInt 1 LP, own s 3 cInt 1 LS, fR (progO p)],
    fun q => 3 - q.1.1, ⟨(0, ⟨none, 0⟩), Nat.zero_le _⟩, ?_, ?_⟩
  · refine weak_mk [99, 0, 1, 2, 3, 4] ?_ ?_ ?_ ?_ ?_ rfl rfl
    · repeat (first | exact trivial | refine ⟨⟨_, rfl, (by first | exact .of rfl | exact .lit rfl | exact .of (by first | (rfl)) | exact .lit (by first | (rfl))), (by first | exact trivial | exact Nat.le_of_ble_eq_true rfl | exact small1 rfl)⟩, ?_⟩)
    · repeat (first | exact trivial | refine ⟨⟨(by first | exact .head _ | exact .tail _ (.head _) | exact .tail _ (.tail _ (.head _)) | exact .tail _ (.tail _ (.tail _ (.head _))) | exact .tail _ (.tail _ (.tail _ (.tail _ (.head _)))) | exact .tail _ (.tail _ (.tail _ (.tail _ (.tail _ (.head _))))) | exact .tail _ (.tail _ (.tail _ (.tail _ (.tail _ (.tail _ (.head _)))))) | exact .tail _ (.tail _ (.tail _ (.tail _ (.tail _ (.tail _ (.tail _ (.head _))))))) | exact .tail _ (.tail _ (.tail _ (.tail _ (.tail _ (.tail _ (.tail _ (.tail _ (.head _)))))))) | exact .tail _ (.tail _ (.tail _ (.tail _ (.tail _ (.tail _ (.tail _ (.tail _ (.tail _ (.head _)))))))))), Nat.le_of_ble_eq_true rfl⟩, ?_⟩)
    · repeat (first | exact trivial | refine ⟨⟨_, rfl, (by first | exact .of rfl | exact .lit rfl | exact .of (by first | (rfl)) | exact .lit (by first | (rfl))), (by first | exact trivial | exact Nat.le_of_ble_eq_true rfl | exact small1 rfl)⟩, ?_⟩)
    · repeat (first | exact trivial | refine ⟨⟨_, rfl⟩, ?_⟩)
    · repeat (first | exact trivial | refine ⟨.inl ⟨_, rfl, (by first | rfl | (rfl))⟩, ?_⟩ | refine ⟨.inr ⟨Nat.le_of_ble_eq_true rfl, rfl, rfl, rfl, rfl⟩, ?_⟩)
  rintro ⟨⟨k1, c1⟩, hk⟩
  simp only at hk
  refine CaseB.mk (fun g => ?_) (fun g => ?_)
  · have hlt : k1 < 3 := by have g' := of_decide_eq_true g; simp only at g'; omega
    have hw := e_succ k1 3 hlt (by omega)
    refine AllSl.mk fun u => ?_
    refine stop_app encOnceH 1 tabOk (ys := [onceZ]) rfl rfl rfl rfl rfl rfl rfl rfl rfl (by decide) ⟨rfl, rfl⟩ rfl (by first | exact rdAt 0 rfl | exact rdOwnAt 0 rfl | exact rdAt 1 rfl | exact rdOwnAt 1 rfl | exact rdAt 2 rfl | exact rdOwnAt 2 rfl | exact rdAt 3 rfl | exact rdOwnAt 3 rfl | exact rdAt 4 rfl | exact rdOwnAt 4 rfl | exact rdAt 5 rfl | exact rdOwnAt 5 rfl | exact rdAt 6 rfl | exact rdOwnAt 6 rfl | exact rdAt 7 rfl | exact rdOwnAt 7 rfl | exact rdAt 8 rfl | exact rdOwnAt 8 rfl | exact rdAt 9 rfl | exact rdOwnAt 9 rfl | exact rdAt 10 rfl | exact rdOwnAt 10 rfl | exact rdAt 11 rfl | exact rdOwnAt 11 rfl | exact rdAt 12 rfl | exact rdOwnAt 12 rfl | exact rdAt 13 rfl | exact rdOwnAt 13 rfl | exact rdAt 14 rfl | exact rdOwnAt 14 rfl | exact rdAt 15 rfl | exact rdOwnAt 15 rfl | exact rdAt 16 rfl | exact rdOwnAt 16 rfl | exact rdAt 17 rfl | exact rdOwnAt 17 rfl | exact rdAt 18 rfl | exact rdOwnAt 18 rfl | exact rdAt 19 rfl | exact rdOwnAt 19 rfl | exact rdAt 20 rfl | exact rdOwnAt 20 rfl | exact rdAt 21 rfl | exact rdOwnAt 21 rfl | exact rdAt 22 rfl | exact rdOwnAt 22 rfl | exact rdAt 23 rfl | exact rdOwnAt 23 rfl) (by first | omega | (simp; done) | (simp; omega) | (unfold maxLen; omega) | (unfold maxLen; simp; done) | (unfold maxLen; simp; omega)) (by first | omega | (simp; done) | (simp; omega) | (unfold maxLen; omega) | (unfold maxLen; simp; done) | (unfold maxLen; simp; omega)) (fun c' => ?_)
    rw [← List.replicate_succ']
    refine ⟨⟨(k1 + 1, c'), by omega⟩, ?_, by simp only; omega⟩
    refine weak_mk [0, 2, 3, 4, 5, 6] ?_ ?_ ?_ ?_ ?_ rfl rfl
    · repeat (first | exact trivial | refine ⟨⟨_, rfl, (by first | exact .of rfl | exact .lit rfl | exact .of (by first | ((exact congrArg (fun z => SV.v (Value.int .i64 z)) hw))) | exact .lit (by first | ((exact congrArg (fun z => SV.v (Value.int .i64 z)) hw)))), (by first | exact trivial | exact Nat.le_of_ble_eq_true rfl | exact small1 rfl)⟩, ?_⟩)
    · repeat (first | exact trivial | refine ⟨⟨(by first | exact .head _ | exact .tail _ (.head _) | exact .tail _ (.tail _ (.head _)) | exact .tail _ (.tail _ (.tail _ (.head _))) | exact .tail _ (.tail _ (.tail _ (.tail _ (.head _)))) | exact .tail _ (.tail _ (.tail _ (.tail _ (.tail _ (.head _))))) | exact .tail _ (.tail _ (.tail _ (.tail _ (.tail _ (.tail _ (.head _)))))) | exact .tail _ (.tail _ (.tail _ (.tail _ (.tail _ (.tail _ (.tail _ (.head _))))))) | exact .tail _ (.tail _ (.tail _ (.tail _ (.tail _ (.tail _ (.tail _ (.tail _ (.head _)))))))) | exact .tail _ (.tail _ (.tail _ (.tail _ (.tail _ (.tail _ (.tail _ (.tail _ (.tail _ (.head _)))))))))), Nat.le_of_ble_eq_true rfl⟩, ?_⟩)
    · repeat (first | exact trivial | refine ⟨⟨_, rfl, (by first | exact .of rfl | exact .lit rfl | exact .of (by first | ((exact congrArg (fun z => SV.v (Value.int .i64 z)) hw))) | exact .lit (by first | ((exact congrArg (fun z => SV.v (Value.int .i64 z)) hw)))), (by first | exact trivial | exact Nat.le_of_ble_eq_true rfl | exact small1 rfl)⟩, ?_⟩)
    · repeat (first | exact trivial | refine ⟨⟨_, rfl⟩, ?_⟩)
    · repeat (first | exact trivial | refine ⟨.inl ⟨_, rfl, (by first | rfl | ((exact congrArg (fun z => SV.v (Value.int .i64 z)) hw)))⟩, ?_⟩ | refine ⟨.inr ⟨Nat.le_of_ble_eq_true rfl, rfl, rfl, rfl, rfl⟩, ?_⟩)
  have hge1 : k1 = 3 := by have g' := of_decide_eq_false g; simp only at g'; omega
  have e1 : List.replicate k1 onceZ = [onceZ, onceZ, onceZ] := by rw [hge1]; rfl
  obtain ⟨L2, hL2⟩ : ∃ l, l = p.groups.map (fun n => (⟨⟨n, []⟩, ⟨none, 0⟩⟩ : GroupH)) := ⟨_, rfl⟩
  have lenL2 : L2.length = p.groups.length := by rw [hL2]; simp
  refine LoopW.mk ⟨{ q : Nat × Sl // q.1 ≤ p.groups.length },
    fun q => .mk [(1, .p 0 0), (2, .p 1 0), (4, .p 2 0), (10, .v (.int .i64 (q.1.1 : Int)))] 3 0 [(0, 26, 5), (1, 34, 9), (2, 34, 9)]
      [((0, 0), .v (p.h0.val p.sems.length)), ((0, 1), .v (p.h1.val p.groups.length)), ((0, 2), .v (p.h2.val p.barriers.length)), ((0, 3), .v (p.h3.val p.rooms.length)), ((0, 4), .v (p.h4.val p.threads.length)), ((2, 0), .v (a.val LP.length)), ((2, 1), .v (s.val LS.length)), ((2, 2), .v (c0.val l0.length)), ((2, 3), .v (c1.val [onceZ, onceZ, onceZ].length)), ((2, 4), .v (q.1.2.val (L2.take q.1.1).length)), ((2, 5), .v (.slice none 0 0)), ((2, 6), .v (.slice none 0 0)), ((2, 7), .v (.slice none 0 0)), ((2, 8), .v (.int .i64 0))]
      [own q.1.2 47 cGroupH 2 (L2.take q.1.1), own c1 57 cOnceH 4 [onceZ, onceZ, onceZ], own c0 45 cSemH 3 l0, fO (l0.flatMap semO), own a 3 cInt 1 LP, own s 3 cInt 1 LS, fR (progO p)],
    fun q => p.groups.length - q.1.1, ⟨(0, ⟨none, 0⟩), Nat.zero_le _⟩, ?_, ?_⟩
  · refine weak_mk [99, 0, 1, 2, 3, 4, 5] ?_ ?_ ?_ ?_ ?_ rfl rfl
    · repeat (first | exact trivial | refine ⟨⟨_, rfl, (by first | exact .of rfl | exact .lit rfl | exact .of (by first | ((first | (rw [e1]; done)))) | exact .lit (by first | ((first | (rw [e1]; done))))), (by first | exact trivial | exact Nat.le_of_ble_eq_true rfl | exact small1 rfl)⟩, ?_⟩)
    · repeat (first | exact trivial | refine ⟨⟨(by first | exact .head _ | exact .tail _ (.head _) | exact .tail _ (.tail _ (.head _)) | exact .tail _ (.tail _ (.tail _ (.head _))) | exact .tail _ (.tail _ (.tail _ (.tail _ (.head _)))) | exact .tail _ (.tail _ (.tail _ (.tail _ (.tail _ (.head _))))) | exact .tail _ (.tail _ (.tail _ (.tail _ (.tail _ (.tail _ (.head _)))))) | exact .tail _ (.tail _ (.tail _ (.tail _ (.tail _ (.tail _ (.tail _ (.head _))))))) | exact .tail _ (.tail _ (.tail _ (.tail _ (.tail _ (.tail _ (.tail _ (.tail _ (.head _)))))))) | exact .tail _ (.tail _ (.tail _ (.tail _ (.tail _ (.tail _ (.tail _ (.tail _ (.tail _ (.head _)))))))))), Nat.le_of_ble_eq_true rfl⟩, ?_⟩)
    · repeat (first | exact trivial | refine ⟨⟨_, rfl, (by first | exact .of rfl | exact .lit rfl | exact .of (by first | ((first | (rw [e1]; done)))) | exact .lit (by first | ((first | (rw [e1]; done))))), (by first | exact trivial | exact Nat.le_of_ble_eq_true rfl | exact small1 rfl)⟩, ?_⟩)
    · repeat (first | exact trivial | refine ⟨⟨_, rfl⟩, ?_⟩)
    · repeat (first | exact trivial | refine ⟨.inl ⟨_, rfl, (by first | rfl | ((first | (rw [e1]; done))))⟩, ?_⟩ | refine ⟨.inr ⟨Nat.le_of_ble_eq_true rfl, rfl, rfl, rfl, rfl⟩, ?_⟩)
  rintro ⟨⟨k2, c2⟩, hk⟩
  simp only at hk
  refine CaseB.mk (fun g => ?_) (fun g => ?_)
  · have hlt : k2 < p.groups.length := by simpa using g
    have e : ∀ x, x = (⟨⟨p.groups[k2], []⟩, ⟨none, 0⟩⟩ : GroupH) → L2.take k2 ++ [x] = L2.take (k2 + 1) := fun x hx => by rw [hL2]; exact map_take_succ hlt rfl hx
    have hw := e_succ k2 _ hlt (by omega)
    refine draw_start tabOk (by kernel_rfl) (by kernel_rfl) (by kernel_rfl) 200 [((0, 0), .v (p.h0.val p.sems.length)), ((0, 1), .v (p.h1.val p.groups.length)), ((0, 2), .v (p.h2.val p.barriers.length)), ((0, 3), .v (p.h3.val p.rooms.length)), ((0, 4), .v (p.h4.val p.threads.length))] [6] [_] ⟨⟨_, rfl, rfl, (by first | exact trivial | exact Nat.le_of_ble_eq_true rfl)⟩, ⟨_, rfl, rfl, (by first | exact trivial | exact Nat.le_of_ble_eq_true rfl)⟩, ⟨_, rfl, rfl, (by first | exact trivial | exact Nat.le_of_ble_eq_true rfl)⟩, ⟨_, rfl, rfl, (by first | exact trivial | exact Nat.le_of_ble_eq_true rfl)⟩, ⟨_, rfl, rfl, (by first | exact trivial | exact Nat.le_of_ble_eq_true rfl)⟩, trivial⟩ ⟨⟨_, rfl⟩, ⟨_, rfl⟩, ⟨_, rfl⟩, ⟨_, rfl⟩, ⟨_, rfl⟩, trivial⟩ ⟨rfl, trivial⟩ rfl ?_
    refine d_idx (ti := tiOf tab) encInt tabOk rfl rfl rfl rfl rfl ⟨rfl, rfl⟩ (rdVia 0 rfl (.ofR (progO_groups p))) k2 rfl (by first | omega | (simp; done) | (simp; omega) | (unfold maxLen; omega) | (unfold maxLen; simp; done) | (unfold maxLen; simp; omega)) (fun ad => ?_)
    refine BothW.mk ?_ ?_
    all_goals
      refine AllSl.mk fun u => ?_
      refine d_app (ti := tiOf tab) encGroupH 1 tabOk (ys := [⟨⟨p.groups[k2], []⟩, ⟨none, 0⟩⟩]) rfl rfl rfl rfl rfl rfl rfl rfl rfl (by decide) ⟨rfl, rfl⟩ rfl (by first | exact rdAt 0 rfl | exact rdOwnAt 0 rfl | exact rdAt 1 rfl | exact rdOwnAt 1 rfl | exact rdAt 2 rfl | exact rdOwnAt 2 rfl | exact rdAt 3 rfl | exact rdOwnAt 3 rfl | exact rdAt 4 rfl | exact rdOwnAt 4 rfl | exact rdAt 5 rfl | exact rdOwnAt 5 rfl | exact rdAt 6 rfl | exact rdOwnAt 6 rfl | exact rdAt 7 rfl | exact rdOwnAt 7 rfl | exact rdAt 8 rfl | exact rdOwnAt 8 rfl | exact rdAt 9 rfl | exact rdOwnAt 9 rfl | exact rdAt 10 rfl | exact rdOwnAt 10 rfl | exact rdAt 11 rfl | exact rdOwnAt 11 rfl | exact rdAt 12 rfl | exact rdOwnAt 12 rfl | exact rdAt 13 rfl | exact rdOwnAt 13 rfl | exact rdAt 14 rfl | exact rdOwnAt 14 rfl | exact rdAt 15 rfl | exact rdOwnAt 15 rfl | exact rdAt 16 rfl | exact rdOwnAt 16 rfl | exact rdAt 17 rfl | exact rdOwnAt 17 rfl | exact rdAt 18 rfl | exact rdOwnAt 18 rfl | exact rdAt 19 rfl | exact rdOwnAt 19 rfl | exact rdAt 20 rfl | exact rdOwnAt 20 rfl | exact rdAt 21 rfl | exact rdOwnAt 21 rfl | exact rdAt 22 rfl | exact rdOwnAt 22 rfl | exact rdAt 23 rfl | exact rdOwnAt 23 rfl) (by first | omega | (simp; done) | (simp; omega) | (unfold maxLen; omega) | (unfold maxLen; simp; done) | (unfold maxLen; simp; omega)) (by first | omega | (simp; done) | (simp; omega) | (unfold maxLen; omega) | (unfold maxLen; simp; done) | (unfold maxLen; simp; omega)) (by simp [keepF]) (fun c' => ?_)
      rw [e _ rfl]
      refine ⟨⟨(k2 + 1, c'), by omega⟩, ?_, by simp only; omega⟩
      refine weak_mk [0, 2, 3, 4, 5, 6, 7] ?_ ?_ ?_ ?_ ?_ rfl rfl
      · repeat (first | exact trivial | refine ⟨⟨_, rfl, (by first | exact .of rfl | exact .lit rfl | exact .of (by first | ((exact congrArg (fun z => SV.v (Value.int .i64 z)) hw))) | exact .lit (by first | ((exact congrArg (fun z => SV.v (Value.int .i64 z)) hw)))), (by first | exact trivial | exact Nat.le_of_ble_eq_true rfl | exact small1 rfl)⟩, ?_⟩)
      · repeat (first | exact trivial | refine ⟨⟨(by first | exact .head _ | exact .tail _ (.head _) | exact .tail _ (.tail _ (.head _)) | exact .tail _ (.tail _ (.tail _ (.head _))) | exact .tail _ (.tail _ (.tail _ (.tail _ (.head _)))) | exact .tail _ (.tail _ (.tail _ (.tail _ (.tail _ (.head _))))) | exact .tail _ (.tail _ (.tail _ (.tail _ (.tail _ (.tail _ (.head _)))))) | exact .tail _ (.tail _ (.tail _ (.tail _ (.tail _ (.tail _ (.tail _ (.head _))))))) | exact .tail _ (.tail _ (.tail _ (.tail _ (.tail _ (.tail _ (.tail _ (.tail _ (.head _)))))))) | exact .tail _ (.tail _ (.tail _ (.tail _ (.tail _ (.tail _ (.tail _ (.tail _ (.tail _ (.head _)))))))))), Nat.le_of_ble_eq_true rfl⟩, ?_⟩)
      · repeat (first | exact trivial | refine ⟨⟨_, rfl, (by first | exact .of rfl | exact .lit rfl | exact .of (by first | ((exact congrArg (fun z => SV.v (Value.int .i64 z)) hw))) | exact .lit (by first | ((exact congrArg (fun z => SV.v (Value.int .i64 z)) hw)))), (by first | exact trivial | exact Nat.le_of_ble_eq_true rfl | exact small1 rfl)⟩, ?_⟩)
      · repeat (first | exact trivial | refine ⟨⟨_, rfl⟩, ?_⟩)
      · repeat (first | exact trivial | refine ⟨.inl ⟨_, rfl, (by first | rfl | ((exact congrArg (fun z => SV.v (Value.int .i64 z)) hw)))⟩, ?_⟩ | refine ⟨.inr ⟨Nat.le_of_ble_eq_true rfl, rfl, rfl, rfl, rfl⟩, ?_⟩)
  have hge2 : p.groups.length ≤ k2 := by simpa using g
  have e2 : L2.take k2 = L2 := List.take_of_length_le (by omega)
  refine LoopW.mk ⟨{ q : Nat × Sl × List BarrierH // q.1 ≤ p.barriers.length ∧ q.2.2.map (·.m) = (p.barriers.map fun n => (⟨n, 0, []⟩ : Barrier)).take q.1 },
    fun q => .mk [(1, .p 0 0), (2, .p 1 0), (4, .p 2 0), (11, .v (.int .i64 (q.1.1 : Int)))] 3 0 [(0, 26, 5), (1, 34, 9), (2, 34, 9)]
      [((0, 0), .v (p.h0.val p.sems.length)), ((0, 1), .v (p.h1.val p.groups.length)), ((0, 2), .v (p.h2.val p.barriers.length)), ((0, 3), .v (p.h3.val p.rooms.length)), ((0, 4), .v (p.h4.val p.threads.length)), ((2, 0), .v (a.val LP.length)), ((2, 1), .v (s.val LS.length)), ((2, 2), .v (c0.val l0.length)), ((2, 3), .v (c1.val [onceZ, onceZ, onceZ].length)), ((2, 4), .v (c2.val L2.length)), ((2, 5), .v (q.1.2.1.val q.1.2.2.length)), ((2, 6), .v (.slice none 0 0)), ((2, 7), .v (.slice none 0 0)), ((2, 8), .v (.int .i64 0))]
      [own q.1.2.1 49 cBarrierH 3 q.1.2.2, fO (q.1.2.2.flatMap barrierO), own c2 47 cGroupH 2 L2, own c1 57 cOnceH 4 [onceZ, onceZ, onceZ], own c0 45 cSemH 3 l0, fO (l0.flatMap semO), own a 3 cInt 1 LP, own s 3 cInt 1 LS, fR (progO p)],
    fun q => p.barriers.length - q.1.1, ⟨(0, ⟨none, 0⟩, []), Nat.zero_le _, by simp⟩, ?_, ?_⟩
  · refine weak_shift (.joinO [] (Gs := []) trivial rfl (.refl _)) ?_
    refine weak_mk [99, 0, 1, 2, 3, 4, 5, 6, 7] ?_ ?_ ?_ ?_ ?_ rfl rfl
    · repeat (first | exact trivial | refine ⟨⟨_, rfl, (by first | exact .of rfl | exact .lit rfl | exact .of (by first | ((first | (rw [e2]; done)))) | exact .lit (by first | ((first | (rw [e2]; done))))), (by first | exact trivial | exact Nat.le_of_ble_eq_true rfl | exact small1 rfl)⟩, ?_⟩)
    · repeat (first | exact trivial | refine ⟨⟨(by first | exact .head _ | exact .tail _ (.head _) | exact .tail _ (.tail _ (.head _)) | exact .tail _ (.tail _ (.tail _ (.head _))) | exact .tail _ (.tail _ (.tail _ (.tail _ (.head _)))) | exact .tail _ (.tail _ (.tail _ (.tail _ (.tail _ (.head _))))) | exact .tail _ (.tail _ (.tail _ (.tail _ (.tail _ (.tail _ (.head _)))))) | exact .tail _ (.tail _ (.tail _ (.tail _ (.tail _ (.tail _ (.tail _ (.head _))))))) | exact .tail _ (.tail _ (.tail _ (.tail _ (.tail _ (.tail _ (.tail _ (.tail _ (.head _)))))))) | exact .tail _ (.tail _ (.tail _ (.tail _ (.tail _ (.tail _ (.tail _ (.tail _ (.tail _ (.head _)))))))))), Nat.le_of_ble_eq_true rfl⟩, ?_⟩)
    · repeat (first | exact trivial | refine ⟨⟨_, rfl, (by first | exact .of rfl | exact .lit rfl | exact .of (by first | ((first | (rw [e2]; done)))) | exact .lit (by first | ((first | (rw [e2]; done))))), (by first | exact trivial | exact Nat.le_of_ble_eq_true rfl | exact small1 rfl)⟩, ?_⟩)
    · repeat (first | exact trivial | refine ⟨⟨_, rfl⟩, ?_⟩)
    · repeat (first | exact trivial | refine ⟨.inl ⟨_, rfl, (by first | rfl | ((first | (rw [e2]; done))))⟩, ?_⟩ | refine ⟨.inr ⟨Nat.le_of_ble_eq_true rfl, rfl, rfl, rfl, rfl⟩, ?_⟩)
  rintro ⟨⟨k3, c3, l3⟩, hk, hl3⟩
  simp only at hk hl3
  have ln3 : l3.length = k3 := by have := congrArg List.length hl3; simp at this; omega
  refine CaseB.mk (fun g => ?_) (fun g => ?_)
  · have hlt : k3 < p.barriers.length := by simpa using g
    have hw := e_succ k3 _ hlt (by omega)
    have hv := ok.barriers.2 _ (List.getElem_mem hlt)
    refine stop_idx encInt tabOk rfl rfl rfl rfl rfl ⟨rfl, rfl⟩ (rdVia 8 rfl (.ofR (progO_barriers p))) k3 rfl (by first | omega | (simp; done) | (simp; omega) | (unfold maxLen; omega) | (unfold maxLen; simp; done) | (unfold maxLen; simp; omega)) (fun ad => ?_)
    refine stop_call _ cl16 rfl rfl rfl rfl ⟨rfl, rfl⟩ (fun A w hW => newBarrier_c _ hv.1 hv.2 w) ?_
    rintro v L ⟨y, rfl, rfl⟩
    refine AllSl.mk fun r => ?_
    generalize hx : (⟨⟨p.barriers[k3], 0, []⟩, y⟩ : BarrierH) = x
    have hxm : x.m = ⟨p.barriers[k3], 0, []⟩ := by rw [← hx]
    refine stop_app encBarrierH 2 tabOk (ys := [x]) rfl rfl rfl rfl rfl (by rw [← hx]; rfl) rfl rfl rfl (by decide) ⟨rfl, rfl⟩ rfl (by rw [← hx]; exact rdOwnAt 0 rfl) (by simp only [List.length_cons, List.length_nil]; omega) (by simp only [List.length_cons, List.length_nil]; unfold maxLen; omega) (fun c' => ?_)
    refine ⟨⟨(k3 + 1, c', l3 ++ [x]), by omega, by rw [List.map_append]; exact map_take_succ hlt hl3 hxm⟩, ?_, by simp only; omega⟩
    refine weak_shift (.joinO [2, 3] (Gs := [[_], _]) ⟨.inl ⟨_, rfl, .own⟩, .inl ⟨_, rfl, .o⟩, trivial⟩ rfl (G := (l3 ++ [x]).flatMap barrierO) (by subst hx; rw [List.flatMap_append]; exact (List.Perm.of_eq (by simp [barrierO])).trans List.perm_append_comm)) ?_
    refine weak_mk [1, 0, 3, 4, 5, 6, 7, 8, 9] ?_ ?_ ?_ ?_ ?_ rfl rfl
    · repeat (first | exact trivial | refine ⟨⟨_, rfl, (by first | exact .of rfl | exact .lit rfl | exact .of (by first | ((exact congrArg (fun z => SV.v (Value.int .i64 z)) hw))) | exact .lit (by first | ((exact congrArg (fun z => SV.v (Value.int .i64 z)) hw)))), (by first | exact trivial | exact Nat.le_of_ble_eq_true rfl | exact small1 rfl)⟩, ?_⟩)
    · repeat (first | exact trivial | refine ⟨⟨(by first | exact .head _ | exact .tail _ (.head _) | exact .tail _ (.tail _ (.head _)) | exact .tail _ (.tail _ (.tail _ (.head _))) | exact .tail _ (.tail _ (.tail _ (.tail _ (.head _)))) | exact .tail _ (.tail _ (.tail _ (.tail _ (.tail _ (.head _))))) | exact .tail _ (.tail _ (.tail _ (.tail _ (.tail _ (.tail _ (.head _)))))) | exact .tail _ (.tail _ (.tail _ (.tail _ (.tail _ (.tail _ (.tail _ (.head _))))))) | exact .tail _ (.tail _ (.tail _ (.tail _ (.tail _ (.tail _ (.tail _ (.tail _ (.head _)))))))) | exact .tail _ (.tail _ (.tail _ (.tail _ (.tail _ (.tail _ (.tail _ (.tail _ (.tail _ (.head _)))))))))), Nat.le_of_ble_eq_true rfl⟩, ?_⟩)
    · repeat (first | exact trivial | refine ⟨⟨_, rfl, (by first | exact .of rfl | exact .lit rfl | exact .of (by first | ((exact congrArg (fun z => SV.v (Value.int .i64 z)) hw))) | exact .lit (by first | ((exact congrArg (fun z => SV.v (Value.int .i64 z)) hw)))), (by first | exact trivial | exact Nat.le_of_ble_eq_true rfl | exact small1 rfl)⟩, ?_⟩)
    · repeat (first | exact trivial | refine ⟨⟨_, rfl⟩, ?_⟩)
    · repeat (first | exact trivial | refine ⟨.inl ⟨_, rfl, (by first | rfl | ((exact congrArg (fun z => SV.v (Value.int .i64 z)) hw)))⟩, ?_⟩ | refine ⟨.inr ⟨Nat.le_of_ble_eq_true rfl, rfl, rfl, rfl, rfl⟩, ?_⟩)
  have hge3 : p.barriers.length ≤ k3 := by simpa using g
  have m3' : l3.map (·.m) = p.barriers.map fun n => (⟨n, 0, []⟩ : Barrier) := by rw [hl3, List.take_of_length_le (by simpa using hge3)]
  refine LoopW.mk ⟨{ q : Nat × Sl × List ChanH // q.1 ≤ p.rooms.length ∧ q.2.2.map (·.m) = (p.rooms.map fun n => (⟨n, [], [], [], false⟩ : Chan)).take q.1 },
    fun q => .mk [(1, .p 0 0), (2, .p 1 0), (4, .p 2 0), (14, .v (.int .i64 (q.1.1 : Int)))] 3 0 [(0, 26, 5), (1, 34, 9), (2, 34, 9)]
      [((0, 0), .v (p.h0.val p.sems.length)), ((0, 1), .v (p.h1.val p.groups.length)), ((0, 2), .v (p.h2.val p.barriers.length)), ((0, 3), .v (p.h3.val p.rooms.length)), ((0, 4), .v (p.h4.val p.threads.length)), ((2, 0), .v (a.val LP.length)), ((2, 1), .v (s.val LS.length)), ((2, 2), .v (c0.val l0.length)), ((2, 3), .v (c1.val [onceZ, onceZ, onceZ].length)), ((2, 4), .v (c2.val L2.length)), ((2, 5), .v (c3.val l3.length)), ((2, 6), .v (q.1.2.1.val q.1.2.2.length)), ((2, 7), .v (.slice none 0 0)), ((2, 8), .v (.int .i64 0))]
      [own q.1.2.1 52 cChanH 5 q.1.2.2, fO (q.1.2.2.flatMap chanO), own c3 49 cBarrierH 3 l3, fO (l3.flatMap barrierO), own c2 47 cGroupH 2 L2, own c1 57 cOnceH 4 [onceZ, onceZ, onceZ], own c0 45 cSemH 3 l0, fO (l0.flatMap semO), own a 3 cInt 1 LP, own s 3 cInt 1 LS, fR (progO p)],
    fun q => p.rooms.length - q.1.1, ⟨(0, ⟨none, 0⟩, []), Nat.zero_le _, by simp⟩, ?_, ?_⟩
  · refine weak_shift (.joinO [] (Gs := []) trivial rfl (.refl _)) ?_
    refine weak_mk [99, 0, 1, 2, 3, 4, 5, 6, 7, 8, 9] ?_ ?_ ?_ ?_ ?_ rfl rfl
    · repeat (first | exact trivial | refine ⟨⟨_, rfl, (by first | exact .of rfl | exact .lit rfl | exact .of (by first | (rfl)) | exact .lit (by first | (rfl))), (by first | exact trivial | exact Nat.le_of_ble_eq_true rfl | exact small1 rfl)⟩, ?_⟩)
    · repeat (first | exact trivial | refine ⟨⟨(by first | exact .head _ | exact .tail _ (.head _) | exact .tail _ (.tail _ (.head _)) | exact .tail _ (.tail _ (.tail _ (.head _))) | exact .tail _ (.tail _ (.tail _ (.tail _ (.head _)))) | exact .tail _ (.tail _ (.tail _ (.tail _ (.tail _ (.head _))))) | exact .tail _ (.tail _ (.tail _ (.tail _ (.tail _ (.tail _ (.head _)))))) | exact .tail _ (.tail _ (.tail _ (.tail _ (.tail _ (.tail _ (.tail _ (.head _))))))) | exact .tail _ (.tail _ (.tail _ (.tail _ (.tail _ (.tail _ (.tail _ (.tail _ (.head _)))))))) | exact .tail _ (.tail _ (.tail _ (.tail _ (.tail _ (.tail _ (.tail _ (.tail _ (.tail _ (.head _)))))))))), Nat.le_of_ble_eq_true rfl⟩, ?_⟩)
    · repeat (first | exact trivial | refine ⟨⟨_, rfl, (by first | exact .of rfl | exact .lit rfl | exact .of (by first | (rfl)) | exact .lit (by first | (rfl))), (by first | exact trivial | exact Nat.le_of_ble_eq_true rfl | exact small1 rfl)⟩, ?_⟩)
    · repeat (first | exact trivial | refine ⟨⟨_, rfl⟩, ?_⟩)
    · repeat (first | exact trivial | refine ⟨.inl ⟨_, rfl, (by first | rfl | (rfl))⟩, ?_⟩ | refine ⟨.inr ⟨Nat.le_of_ble_eq_true rfl, rfl, rfl, rfl, rfl⟩, ?_⟩)
  rintro ⟨⟨k4, c4, l4⟩, hk, hl4⟩
  simp only at hk hl4
  have ln4 : l4.length = k4 := by have := congrArg List.length hl4; simp at this; omega
  refine CaseB.mk (fun g => ?_) (fun g => ?_)
  · have hlt : k4 < p.rooms.length := by simpa using g
    have hw := e_succ k4 _ hlt (by omega)
    have hv := ok.rooms.2 _ (List.getElem_mem hlt)
    refine stop_idx encInt tabOk rfl rfl rfl rfl rfl ⟨rfl, rfl⟩ (rdVia 10 rfl (.ofR (progO_rooms p))) k4 rfl (by first | omega | (simp; done) | (simp; omega) | (unfold maxLen; omega) | (unfold maxLen; simp; done) | (unfold maxLen; simp; omega)) (fun ad => ?_)
    refine stop_call _ cl17 rfl rfl rfl rfl ⟨rfl, rfl⟩ (fun A w hW => newChan_c _ hv.1 hv.2 w) ?_
    rintro v L ⟨y, z, u, rfl, rfl⟩
    refine AllSl.mk fun r => ?_
    generalize hx : (⟨⟨p.rooms[k4], [], [], [], false⟩, y, z, u⟩ : ChanH) = x
    have hxm : x.m = ⟨p.rooms[k4], [], [], [], false⟩ := by rw [← hx]
    refine stop_app encChanH 4 tabOk (ys := [x]) rfl rfl rfl rfl rfl (by rw [← hx]; rfl) rfl rfl rfl (by decide) ⟨rfl, rfl⟩ rfl (by rw [← hx]; exact rdOwnAt 0 rfl) (by simp only [List.length_cons, List.length_nil]; omega) (by simp only [List.length_cons, List.length_nil]; unfold maxLen; omega) (fun c' => ?_)
    refine ⟨⟨(k4 + 1, c', l4 ++ [x]), by omega, by rw [List.map_append]; exact map_take_succ hlt hl4 hxm⟩, ?_, by simp only; omega⟩
    refine weak_shift (.joinO [2, 3, 4, 5] (Gs := [[_], [_], [_], _]) ⟨.inl ⟨_, rfl, .own⟩, .inl ⟨_, rfl, .own⟩, .inl ⟨_, rfl, .own⟩, .inl ⟨_, rfl, .o⟩, trivial⟩ rfl (G := (l4 ++ [x]).flatMap chanO) (by subst hx; rw [List.flatMap_append]; exact (List.Perm.of_eq (by simp [chanO])).trans List.perm_append_comm)) ?_
    refine weak_mk [1, 0, 3, 4, 5, 6, 7, 8, 9, 10, 11] ?_ ?_ ?_ ?_ ?_ rfl rfl
    · repeat (first | exact trivial | refine ⟨⟨_, rfl, (by first | exact .of rfl | exact .lit rfl | exact .of (by first | ((exact congrArg (fun z => SV.v (Value.int .i64 z)) hw))) | exact .lit (by first | ((exact congrArg (fun z => SV.v (Value.int .i64 z)) hw)))), (by first | exact trivial | exact Nat.le_of_ble_eq_true rfl | exact small1 rfl)⟩, ?_⟩)
    · repeat (first | exact trivial | refine ⟨⟨(by first | exact .head _ | exact .tail _ (.head _) | exact .tail _ (.tail _ (.head _)) | exact .tail _ (.tail _ (.tail _ (.head _))) | exact .tail _ (.tail _ (.tail _ (.tail _ (.head _)))) | exact .tail _ (.tail _ (.tail _ (.tail _ (.tail _ (.head _))))) | exact .tail _ (.tail _ (.tail _ (.tail _ (.tail _ (.tail _ (.head _)))))) | exact .tail _ (.tail _ (.tail _ (.tail _ (.tail _ (.tail _ (.tail _ (.head _))))))) | exact .tail _ (.tail _ (.tail _ (.tail _ (.tail _ (.tail _ (.tail _ (.tail _ (.head _)))))))) | exact .tail _ (.tail _ (.tail _ (.tail _ (.tail _ (.tail _ (.tail _ (.tail _ (.tail _ (.head _)))))))))), Nat.le_of_ble_eq_true rfl⟩, ?_⟩)
    · repeat (first | exact trivial | refine ⟨⟨_, rfl, (by first | exact .of rfl | exact .lit rfl | exact .of (by first | ((exact congrArg (fun z => SV.v (Value.int .i64 z)) hw))) | exact .lit (by first | ((exact congrArg (fun z => SV.v (Value.int .i64 z)) hw)))), (by first | exact trivial | exact Nat.le_of_ble_eq_true rfl | exact small1 rfl)⟩, ?_⟩)
    · repeat (first | exact trivial | refine ⟨⟨_, rfl⟩, ?_⟩)
    · repeat (first | exact trivial | refine ⟨.inl ⟨_, rfl, (by first | rfl | ((exact congrArg (fun z => SV.v (Value.int .i64 z)) hw)))⟩, ?_⟩ | refine ⟨.inr ⟨Nat.le_of_ble_eq_true rfl, rfl, rfl, rfl, rfl⟩, ?_⟩)
  have hge4 : p.rooms.length ≤ k4 := by simpa using g
  have m4' : l4.map (·.m) = p.rooms.map fun n => (⟨n, [], [], [], false⟩ : Chan) := by rw [hl4, List.take_of_length_le (by simpa using hge4)]
  generalize hy : (⟨LP, LS, l0, [onceZ, onceZ, onceZ], L2, l3, l4, [], 0, a, s, c0, c1, c2, c3, c4, ⟨none, 0⟩⟩ : StateH) = Y
  have nil1 : ∀ g ∈ L2.flatMap groupO, nilFact g := nilOf fun x hx g hg => by
    rw [hL2] at hx; obtain ⟨n, _, rfl⟩ := List.mem_map.1 hx; simp [groupO] at hg; subst hg; exact ⟨rfl, rfl, rfl, rfl⟩
  have nil4 : ∀ g ∈ [onceZ, onceZ, onceZ].flatMap onceO, nilFact g := nilOf fun x hx g hg => by
    simp at hx; subst hx; simp [onceO, onceZ] at hg; subst hg; exact ⟨rfl, rfl, rfl, rfl⟩
  have nil5 : ∀ g ∈ [own ⟨none, 0⟩ 3 cInt 1 ([] : List Int)], nilFact g := fun g hg => by
    simp at hg; subst hg; exact ⟨rfl, rfl, rfl, rfl⟩
  refine ret_shift (.joinO [8, 9, 6, 7, 5, 90, 4, 91, 2, 3, 0, 1, 92] (Gs := [[_], [_], [_], _, [_], _, [_], _, [_], _, [_], _, _])
    ⟨.inl ⟨_, rfl, .own⟩, .inl ⟨_, rfl, .own⟩, .inl ⟨_, rfl, .own⟩, .inl ⟨_, rfl, .o⟩, .inl ⟨_, rfl, .own⟩, .inr ⟨Nat.le_of_ble_eq_true rfl, nil4⟩, .inl ⟨_, rfl, .own⟩, .inr ⟨Nat.le_of_ble_eq_true rfl, nil1⟩, .inl ⟨_, rfl, .own⟩, .inl ⟨_, rfl, .o⟩, .inl ⟨_, rfl, .own⟩, .inl ⟨_, rfl, .o⟩, .inr ⟨Nat.le_of_ble_eq_true rfl, nil5⟩, trivial⟩ rfl (G := stateO Y) (.of_eq (by rw [← hy]; simp [stateO, semsO, oncesO, groupsO, barriersO, chansO, nestO]))) ?_
  have hYp : Y.pure = start p.pure := by
    rw [← hy]
    simp only [StateH.pure, start, ProgH.pure, hLP, hLS, hL2, m0', m3', m4']
    simp [onceZ]
  exact retw [0] ⟨Y, true, by rw [← hy], tyes ok, fun _ => hYp, fun e => (by cases e), rfl⟩ ⟨.inl ⟨_, rfl, rfl⟩, trivial⟩ rfl ⟨rfl, trivial⟩ (fun _ => rfl)

end Go.Proofs.Ytjkkoonennpceaa

namespace Go.Proofs.Ytjkkoonennpceaa

open Go Go.Sx Go.RowKit

theorem within_small {xs : List Int} {lo hi : Int} (h : within xs lo hi) : xs.length ≤ 1048576 := Nat.le_trans h.1 (by decide)

theorem start_small {p : Prog} (ok : ProgOk p) : (start p).small20 := by
  have h1 := within_small ok.sems
  have h2 := within_small ok.groups
  have h3 := within_small ok.barriers
  have h4 := within_small ok.rooms
  have h5 := ok.n4
  refine ⟨by simp [start]; omega, by simp [start]; omega, ⟨by simp [start]; omega, ?_⟩, ⟨by simp [start], ?_⟩, ⟨by simp [start]; omega, ?_⟩, ⟨by simp [start]; omega, ?_⟩, ⟨by simp [start]; omega, ?_⟩, by simp [start]⟩
  · intro x hx; obtain ⟨n, _, rfl⟩ := List.mem_map.1 hx; simp [Sem.small20]
  · intro x hx; simp [start] at hx; subst hx; simp [Once.small20]
  · intro x hx; obtain ⟨n, _, rfl⟩ := List.mem_map.1 hx; simp [Group.small20]
  · intro x hx; obtain ⟨n, _, rfl⟩ := List.mem_map.1 hx; simp [Barrier.small20]
  · intro x hx; obtain ⟨n, _, rfl⟩ := List.mem_map.1 hx; simp [Chan.small20]

theorem zero_small20 : State.zero.small20 := by
  refine ⟨by simp [State.zero], by simp [State.zero], ⟨by simp [State.zero], ?_⟩, ⟨by simp [State.zero], ?_⟩, ⟨by simp [State.zero], ?_⟩, ⟨by simp [State.zero], ?_⟩, ⟨by simp [State.zero], ?_⟩, by simp [State.zero]⟩
  all_goals
    intro x hx
    simp [State.zero] at hx

/-- What StartProg returns is told by the program alone. -/
theorem Started.one (p : Prog) : ∃ (S : State) (c : Bool), S.small20 ∧ ∀ (y : StateH) (b : Bool), (b = true ↔ ProgOk p) → (b = true → y.pure = start p) → (b = false → y.pure = State.zero) → y.pure = S ∧ b = c := by
  by_cases ok : ProgOk p
  · refine ⟨start p, true, start_small ok, fun y b h1 h2 _ => ?_⟩
    have := h1.2 ok
    exact ⟨h2 this, this⟩
  · refine ⟨State.zero, false, zero_small20, fun y b h1 _ h3 => ?_⟩
    cases b with
    | true => exact (ok (h1.1 rfl)).elim
    | false => exact ⟨h3 rfl, rfl⟩

theorem prog_small {a : ProgH} (h : a.pure.small20) : a.sems.length ≤ 1048576 ∧ a.groups.length ≤ 1048576 ∧ a.barriers.length ≤ 1048576 ∧ a.rooms.length ≤ 1048576 := ⟨h.1, h.2.1, h.2.2.1, h.2.2.2.1⟩

end Go.Proofs.Ytjkkoonennpceaa

namespace Go.Proofs.Ytjkkoonennpceaa

open Go Go.Sx Go.RowKit

theorem OpOk.near {p : Prog} (ok : ProgOk p) {o : Op} (h : OpOk p o) : o.near := by
  obtain ⟨h1, h2, h3, h4, h5⟩ := h
  have hs : p.shared o.kind ≤ 4 := by
    have := ok.sems.1
    have := ok.groups.1
    have := ok.barriers.1
    have := ok.rooms.1
    unfold Prog.shared
    repeat' split
    all_goals omega
  have ha : -100 ≤ o.arg ∧ o.arg ≤ 1000 := by
    unfold Prog.argOk at h5
    split at h5
    · have hg : p.sems.getD o.on.toNat 0 ≤ 9 := by
        rw [List.getD_eq_getElem?_getD]
        cases e : p.sems[o.on.toNat]? with
        | none => simp
        | some x => exact (ok.sems.2 x (List.mem_of_getElem? e)).2
      omega
    · split at h5
      · omega
      · split at h5
        · simp [isValue] at h5; omega
        · omega
  exact ⟨by omega, by omega, by omega, by omega⟩

theorem within_near {l : List Int} {a b : Int} (h : within l a b) (ha : -1000 ≤ a) (hb : b ≤ 1000) : ∀ x ∈ l, nearN x := fun x hx => by
  have := h.2 x hx
  exact ⟨by omega, by omega⟩

theorem fmtOps_at {first : Bool} {out : Str} {l : List Op} {k : Nat} (h : k < l.length) : fmtOps first out (l.drop k) = fmtOps false (((if first = true then out else out ++ [44]) ++ [32]) ++ fmtOpM l[k]) (l.drop (k + 1)) := by
  rw [List.drop_eq_getElem_cons h, fmtOps]

theorem fmtThreads_at {out : Str} {l : List (List Op)} {k : Nat} (h : k < l.length) : fmtThreads out (l.drop k) = fmtThreads (fmtOps true (out ++ [116, 104, 114, 101, 97, 100]) l[k] ++ [10]) (l.drop (k + 1)) := by
  rw [List.drop_eq_getElem_cons h, fmtThreads]

set_option maxHeartbeats 16000000 in
set_option maxRecDepth 100000 in
theorem fmtProg_c (p : ProgH) (w : World) (h : At w [fR (progO p)]) (ok : ProgOk p.pure) :
    Calls Try.prog 71 #[progV p] w (Ret w fun v L => v = .string (bs (fmtProgM p.pure)) ∧ L = []) := by
  have s0 : p.sems.length ≤ 3 := ok.sems.1
  have s1 : p.groups.length ≤ 3 := ok.groups.1
  have s2 : p.barriers.length ≤ 3 := ok.barriers.1
  have s3 : p.rooms.length ≤ 3 := ok.rooms.1
  have lt : p.pure.threads.length = p.threads.length := by simp [ProgH.pure]
  have s4 : p.threads.length ≤ 4 := by rw [← lt]; exact ok.n4
  have q0 := listM_len [115, 101, 109, 115] p.sems
  have q1 := listM_len [103, 114, 111, 117, 112, 115] p.groups
  have q2 := listM_len [98, 97, 114, 114, 105, 101, 114, 115] p.barriers
  have q3 := listM_len [114, 111, 111, 109, 115] p.rooms
  simp only [List.length_cons, List.length_nil] at q0 q1 q2 q3
  refine calls1 Try.func71 rfl tabOk w _ rfl _ rfl _ h ⟨rfl, rfl, trivial⟩ _ (by decide) ?_
  refine stop_call _ cl13 rfl rfl rfl rfl ⟨rfl, rfl⟩ (fun A w hW => progValidS_c p w ⟨hW.get 0 rfl (.refl _), trivial⟩ ⟨by omega, by omega, by omega, by omega⟩) ?_
  rintro v L ⟨b0, rfl, hb0, rfl⟩
  refine CaseB.mk (fun g => by rw [hb0.2 ok] at g; cases g) (fun _ => ?_)
  refine draw_start tabOk (by kernel_rfl) (by kernel_rfl) (by kernel_rfl) 200 [((0, 0), .v (p.h0.val p.sems.length)), ((0, 1), .v (p.h1.val p.groups.length)), ((0, 2), .v (p.h2.val p.barriers.length)), ((0, 3), .v (p.h3.val p.rooms.length)), ((0, 4), .v (p.h4.val p.threads.length))] [] [] ⟨⟨_, rfl, rfl, (by first | exact trivial | exact Nat.le_of_ble_eq_true rfl)⟩, ⟨_, rfl, rfl, (by first | exact trivial | exact Nat.le_of_ble_eq_true rfl)⟩, ⟨_, rfl, rfl, (by first | exact trivial | exact Nat.le_of_ble_eq_true rfl)⟩, ⟨_, rfl, rfl, (by first | exact trivial | exact Nat.le_of_ble_eq_true rfl)⟩, ⟨_, rfl, rfl, (by first | exact trivial | exact Nat.le_of_ble_eq_true rfl)⟩, trivial⟩ ⟨⟨_, rfl⟩, ⟨_, rfl⟩, ⟨_, rfl⟩, ⟨_, rfl⟩, ⟨_, rfl⟩, trivial⟩ trivial rfl ?_
  refine d_call _ cl75 rfl rfl rfl rfl ⟨rfl, rfl⟩ (fun A w hW => (list_c [115, 101, 109, 115] p.h0 p.sems w ⟨hW.get 0 rfl (.ofR (progO_sems p)), trivial⟩ (by decide) (by omega) (within_near ok.sems (by decide) (by decide)))) ?_
  rintro v L ⟨rfl, rfl⟩
  refine d_call _ cl75 rfl rfl rfl rfl ⟨rfl, rfl⟩ (fun A w hW => (list_c [103, 114, 111, 117, 112, 115] p.h1 p.groups w ⟨hW.get 0 rfl (.ofR (progO_groups p)), trivial⟩ (by decide) (by omega) (within_near ok.groups (by decide) (by decide)))) ?_
  rintro v L ⟨rfl, rfl⟩
  refine d_bin rfl rfl rfl ⟨rfl, rfl⟩ (.string (bs ((listM [115, 101, 109, 115] p.sems) ++ (listM [103, 114, 111, 117, 112, 115] p.groups)))) (fun w => eqGuard_str w) (fun w => sadd_run (by omega) w) ?_
  refine d_call _ cl75 rfl rfl rfl rfl ⟨rfl, rfl⟩ (fun A w hW => (list_c [98, 97, 114, 114, 105, 101, 114, 115] p.h2 p.barriers w ⟨hW.get 0 rfl (.ofR (progO_barriers p)), trivial⟩ (by decide) (by omega) (within_near ok.barriers (by decide) (by decide)))) ?_
  rintro v L ⟨rfl, rfl⟩
  refine d_bin rfl rfl rfl ⟨rfl, rfl⟩ (.string (bs ((listM [115, 101, 109, 115] p.sems ++ listM [103, 114, 111, 117, 112, 115] p.groups) ++ (listM [98, 97, 114, 114, 105, 101, 114, 115] p.barriers)))) (fun w => eqGuard_str w) (fun w => sadd_run (by simp only [List.length_append]; omega) w) ?_
  refine d_call _ cl75 rfl rfl rfl rfl ⟨rfl, rfl⟩ (fun A w hW => (list_c [114, 111, 111, 109, 115] p.h3 p.rooms w ⟨hW.get 0 rfl (.ofR (progO_rooms p)), trivial⟩ (by decide) (by omega) (within_near ok.rooms (by decide) (by decide)))) ?_
  rintro v L ⟨rfl, rfl⟩
  refine d_bin rfl rfl rfl ⟨rfl, rfl⟩ (.string (bs (((listM [115, 101, 109, 115] p.sems ++ listM [103, 114, 111, 117, 112, 115] p.groups) ++ listM [98, 97, 114, 114, 105, 101, 114, 115] p.barriers) ++ (listM [114, 111, 111, 109, 115] p.rooms)))) (fun w => eqGuard_str w) (fun w => sadd_run (by simp only [List.length_append]; omega) w) ?_
  have hF : fmtProgM p.pure = fmtThreads (((listM [115, 101, 109, 115] p.sems ++ listM [103, 114, 111, 117, 112, 115] p.groups) ++ listM [98, 97, 114, 114, 105, 101, 114, 115] p.barriers) ++ listM [114, 111, 111, 109, 115] p.rooms) p.pure.threads := rfl
  rw [hF]
  have hol : ((((listM [115, 101, 109, 115] p.sems ++ listM [103, 114, 111, 117, 112, 115] p.groups) ++ listM [98, 97, 114, 114, 105, 101, 114, 115] p.barriers) ++ listM [114, 111, 111, 109, 115] p.rooms)).length ≤ 1000 := by simp only [List.length_append]; omega
  clear hF q0 q1 q2 q3
  generalize (((listM [115, 101, 109, 115] p.sems ++ listM [103, 114, 111, 117, 112, 115] p.groups) ++ listM [98, 97, 114, 114, 105, 101, 114, 115] p.barriers) ++ listM [114, 111, 111, 109, 115] p.rooms) = o1 at hol ⊢
  refine LoopW.mk ⟨{ q : Nat × Str // q.1 ≤ p.threads.length ∧ fmtThreads o1 p.pure.threads = fmtThreads q.2 (p.pure.threads.drop q.1) ∧ q.2.length ≤ 1000 + 1000 * q.1 },
    fun q => .mk [(1, .p 0 0), (3, .v (.string (bs q.1.2))), (4, .v (.int .i64 (q.1.1 : Int)))] 1 0 [(0, 26, 5)] [((0, 4), .v (p.h4.val p.threads.length))] [fR (progO p)],
    fun q => p.threads.length - q.1.1, ⟨(0, o1), Nat.zero_le _, rfl, by simpa using hol⟩, ?_, ?_⟩
  · refine weak_mk [0] ?_ ?_ ?_ ?_ ?_ rfl rfl
    · repeat (first | exact trivial | refine ⟨⟨_, rfl, (by first | exact .of rfl | exact .lit rfl | exact .of (by first | (rfl)) | exact .lit (by first | (rfl))), (by first | exact trivial | exact Nat.le_of_ble_eq_true rfl | exact small1 rfl)⟩, ?_⟩)
    · repeat (first | exact trivial | refine ⟨⟨(by first | exact .head _ | exact .tail _ (.head _) | exact .tail _ (.tail _ (.head _)) | exact .tail _ (.tail _ (.tail _ (.head _))) | exact .tail _ (.tail _ (.tail _ (.tail _ (.head _)))) | exact .tail _ (.tail _ (.tail _ (.tail _ (.tail _ (.head _))))) | exact .tail _ (.tail _ (.tail _ (.tail _ (.tail _ (.tail _ (.head _)))))) | exact .tail _ (.tail _ (.tail _ (.tail _ (.tail _ (.tail _ (.tail _ (.head _))))))) | exact .tail _ (.tail _ (.tail _ (.tail _ (.tail _ (.tail _ (.tail _ (.tail _ (.head _)))))))) | exact .tail _ (.tail _ (.tail _ (.tail _ (.tail _ (.tail _ (.tail _ (.tail _ (.tail _ (.head _)))))))))), Nat.le_of_ble_eq_true rfl⟩, ?_⟩)
    · repeat (first | exact trivial | refine ⟨⟨_, rfl, (by first | exact .of rfl | exact .lit rfl | exact .of (by first | (rfl)) | exact .lit (by first | (rfl))), (by first | exact trivial | exact Nat.le_of_ble_eq_true rfl | exact small1 rfl)⟩, ?_⟩)
    · repeat (first | exact trivial | refine ⟨⟨_, rfl⟩, ?_⟩)
    · repeat (first | exact trivial | refine ⟨.inl ⟨_, rfl, (by first | rfl | (rfl))⟩, ?_⟩ | refine ⟨.inr ⟨Nat.le_of_ble_eq_true rfl, rfl, rfl, rfl, rfl⟩, ?_⟩)
  rintro ⟨⟨i, out⟩, i1, i2, i3⟩
  simp only at i1 i2 i3 ⊢
  refine CaseB.mk (fun g => ?_) (fun g => ?_)
  · have hlt : i < p.threads.length := by have := of_decide_eq_true g; omega
    have hlt2 : i < p.pure.threads.length := by omega
    have hw := e_succ i _ hlt (by omega)
    have ht : p.pure.threads[i] = (p.threads[i]).m := by simp [ProgH.pure]
    have hopk := ok.ops _ (List.getElem_mem hlt2)
    rw [ht] at hopk
    rw [fmtThreads_at hlt2, ht] at i2
    refine stop_bin rfl rfl rfl ⟨rfl, rfl⟩ (.string (bs (out ++ [116, 104, 114, 101, 97, 100]))) (fun w => eqGuard_str w) (fun w => sadd_run (by simp only [List.length_cons, List.length_nil]; omega) w) ?_
    obtain ⟨ops, hops⟩ : ∃ ops, ops = (p.threads[i]).m := ⟨_, rfl⟩
    rw [← hops] at hopk i2
    refine LoopW.mk ⟨{ q : Nat × Str // q.1 ≤ ops.length ∧ fmtOps true (out ++ [116, 104, 114, 101, 97, 100]) ops = fmtOps (decide (q.1 = 0)) q.2 (ops.drop q.1) ∧ q.2.length ≤ out.length + 6 + 62 * q.1 },
      fun q => .mk [(1, .p 0 0), (3, .v (.string (bs q.1.2))), (4, .v (.int .i64 (i : Int))), (5, .v (.int .i64 (q.1.1 : Int)))] 1 0 [(0, 26, 5)] [((0, 4), .v (p.h4.val p.threads.length))] [fR (progO p)],
      fun q => ops.length - q.1.1, ⟨(0, out ++ [116, 104, 114, 101, 97, 100]), Nat.zero_le _, rfl, by simp⟩, ?_, ?_⟩
    · refine weak_mk [0] ?_ ?_ ?_ ?_ ?_ rfl rfl
      · repeat (first | exact trivial | refine ⟨⟨_, rfl, (by first | exact .of rfl | exact .lit rfl | exact .of (by first | (rfl)) | exact .lit (by first | (rfl))), (by first | exact trivial | exact Nat.le_of_ble_eq_true rfl | exact small1 rfl)⟩, ?_⟩)
      · repeat (first | exact trivial | refine ⟨⟨(by first | exact .head _ | exact .tail _ (.head _) | exact .tail _ (.tail _ (.head _)) | exact .tail _ (.tail _ (.tail _ (.head _))) | exact .tail _ (.tail _ (.tail _ (.tail _ (.head _)))) | exact .tail _ (.tail _ (.tail _ (.tail _ (.tail _ (.head _))))) | exact .tail _ (.tail _ (.tail _ (.tail _ (.tail _ (.tail _ (.head _)))))) | exact .tail _ (.tail _ (.tail _ (.tail _ (.tail _ (.tail _ (.tail _ (.head _))))))) | exact .tail _ (.tail _ (.tail _ (.tail _ (.tail _ (.tail _ (.tail _ (.tail _ (.head _)))))))) | exact .tail _ (.tail _ (.tail _ (.tail _ (.tail _ (.tail _ (.tail _ (.tail _ (.tail _ (.head _)))))))))), Nat.le_of_ble_eq_true rfl⟩, ?_⟩)
      · repeat (first | exact trivial | refine ⟨⟨_, rfl, (by first | exact .of rfl | exact .lit rfl | exact .of (by first | (rfl)) | exact .lit (by first | (rfl))), (by first | exact trivial | exact Nat.le_of_ble_eq_true rfl | exact small1 rfl)⟩, ?_⟩)
      · repeat (first | exact trivial | refine ⟨⟨_, rfl⟩, ?_⟩)
      · repeat (first | exact trivial | refine ⟨.inl ⟨_, rfl, (by first | rfl | (rfl))⟩, ?_⟩ | refine ⟨.inr ⟨Nat.le_of_ble_eq_true rfl, rfl, rfl, rfl, rfl⟩, ?_⟩)
    rintro ⟨⟨k, o2⟩, k1, k2, k3⟩
    simp only at k1 k2 k3 ⊢
    subst hops
    refine stop_idx encOpSH tabOk rfl rfl rfl rfl rfl ⟨rfl, rfl⟩ (rdVia 0 rfl (.trans (.R_R (progO_threads p)) (.ofR nest_h))) i rfl (by first | omega | (simp; done) | (simp; omega) | (unfold maxLen; omega) | (unfold maxLen; simp; done) | (unfold maxLen; simp; omega)) (fun ad => ?_)
    refine CaseB.mk (fun g2 => ?_) (fun g2 => ?_)
    · have hkl : k < (p.threads[i]).m.length := by have := of_decide_eq_true g2; omega
      have hw2 := e_succ k _ hkl (by omega)
      have hne := OpOk.near ok (hopk.2 _ (List.getElem_mem hkl))
      have hfl := fmtOpM_len ((p.threads[i]).m[k])
      rw [fmtOps_at hkl] at k2
      refine CaseB.mk (fun g3 => ?_) (fun g3 => ?_)
      · have hk0 : ¬ k = 0 := by have := of_decide_eq_true g3; omega
        rw [decide_eq_false hk0, if_neg (by decide)] at k2
        refine stop_bin rfl rfl rfl ⟨rfl, rfl⟩ (.string (bs (o2 ++ [44]))) (fun w => eqGuard_str w) (fun w => sadd_run (by simp only [List.length_cons, List.length_nil]; omega) w) ?_
        refine stop_bin rfl rfl rfl ⟨rfl, rfl⟩ (.string (bs ((o2 ++ [44]) ++ [32]))) (fun w => eqGuard_str w) (fun w => sadd_run (by simp only [List.length_append, List.length_cons, List.length_nil]; omega) w) ?_
        refine stop_idx encOpSH tabOk rfl rfl rfl rfl rfl ⟨rfl, rfl⟩ (rdVia 0 rfl (.trans (.R_R (progO_threads p)) (.ofR nest_h))) i rfl (by first | omega | (simp; done) | (simp; omega) | (unfold maxLen; omega) | (unfold maxLen; simp; done) | (unfold maxLen; simp; omega)) (fun ad2 => ?_)
        refine stop_idx encOp tabOk rfl rfl rfl rfl rfl ⟨rfl, rfl⟩ (rdVia 0 rfl (.trans (.R_R (progO_threads p)) (.ofR (threadsO_0 _ _ i hlt)))) k rfl hkl (fun ad3 => ?_)
        refine stop_call _ cl76 rfl rfl rfl rfl ⟨rfl, rfl⟩ (fun A w hW => (fmtOp_c _ w hne)) ?_
        rintro v L ⟨rfl, rfl⟩
        refine stop_bin rfl rfl rfl ⟨rfl, rfl⟩ (.string (bs (((o2 ++ [44]) ++ [32]) ++ (fmtOpM ((p.threads[i]).m[k]))))) (fun w => eqGuard_str w) (fun w => sadd_run (by simp only [List.length_append, List.length_cons, List.length_nil]; omega) w) ?_
        refine ⟨⟨(k + 1, ((o2 ++ [44]) ++ [32]) ++ fmtOpM ((p.threads[i]).m[k])), hkl, by rw [decide_eq_false (by omega)]; exact k2, by simp only [List.length_append, List.length_cons, List.length_nil]; omega⟩, ?_, by simp only; omega⟩
        refine weak_mk [0] ?_ ?_ ?_ ?_ ?_ rfl rfl
        · repeat (first | exact trivial | refine ⟨⟨_, rfl, (by first | exact .of rfl | exact .lit rfl | exact .of (by first | ((exact congrArg (fun z => SV.v (Value.int .i64 z)) hw2))) | exact .lit (by first | ((exact congrArg (fun z => SV.v (Value.int .i64 z)) hw2)))), (by first | exact trivial | exact Nat.le_of_ble_eq_true rfl | exact small1 rfl)⟩, ?_⟩)
        · repeat (first | exact trivial | refine ⟨⟨(by first | exact .head _ | exact .tail _ (.head _) | exact .tail _ (.tail _ (.head _)) | exact .tail _ (.tail _ (.tail _ (.head _))) | exact .tail _ (.tail _ (.tail _ (.tail _ (.head _)))) | exact .tail _ (.tail _ (.tail _ (.tail _ (.tail _ (.head _))))) | exact .tail _ (.tail _ (.tail _ (.tail _ (.tail _ (.tail _ (.head _)))))) | exact .tail _ (.tail _ (.tail _ (.tail _ (.tail _ (.tail _ (.tail _ (.head _))))))) | exact .tail _ (.tail _ (.tail _ (.tail _ (.tail _ (.tail _ (.tail _ (.tail _ (.head _)))))))) | exact .tail _ (.tail _ (.tail _ (.tail _ (.tail _ (.tail _ (.tail _ (.tail _ (.tail _ (.head _)))))))))), Nat.le_of_ble_eq_true rfl⟩, ?_⟩)
        · repeat (first | exact trivial | refine ⟨⟨_, rfl, (by first | exact .of rfl | exact .lit rfl | exact .of (by first | ((exact congrArg (fun z => SV.v (Value.int .i64 z)) hw2))) | exact .lit (by first | ((exact congrArg (fun z => SV.v (Value.int .i64 z)) hw2)))), (by first | exact trivial | exact Nat.le_of_ble_eq_true rfl | exact small1 rfl)⟩, ?_⟩)
        · repeat (first | exact trivial | refine ⟨⟨_, rfl⟩, ?_⟩)
        · repeat (first | exact trivial | refine ⟨.inl ⟨_, rfl, (by first | rfl | ((exact congrArg (fun z => SV.v (Value.int .i64 z)) hw2)))⟩, ?_⟩ | refine ⟨.inr ⟨Nat.le_of_ble_eq_true rfl, rfl, rfl, rfl, rfl⟩, ?_⟩)
      have hk0 : k = 0 := by have := of_decide_eq_false g3; omega
      rw [decide_eq_true hk0, if_pos rfl] at k2
      refine stop_bin rfl rfl rfl ⟨rfl, rfl⟩ (.string (bs (o2 ++ [32]))) (fun w => eqGuard_str w) (fun w => sadd_run (by simp only [List.length_cons, List.length_nil]; omega) w) ?_
      refine stop_idx encOpSH tabOk rfl rfl rfl rfl rfl ⟨rfl, rfl⟩ (rdVia 0 rfl (.trans (.R_R (progO_threads p)) (.ofR nest_h))) i rfl (by first | omega | (simp; done) | (simp; omega) | (unfold maxLen; omega) | (unfold maxLen; simp; done) | (unfold maxLen; simp; omega)) (fun ad2 => ?_)
      refine stop_idx encOp tabOk rfl rfl rfl rfl rfl ⟨rfl, rfl⟩ (rdVia 0 rfl (.trans (.R_R (progO_threads p)) (.ofR (threadsO_0 _ _ i hlt)))) k rfl hkl (fun ad3 => ?_)
      refine stop_call _ cl76 rfl rfl rfl rfl ⟨rfl, rfl⟩ (fun A w hW => (fmtOp_c _ w hne)) ?_
      rintro v L ⟨rfl, rfl⟩
      refine stop_bin rfl rfl rfl ⟨rfl, rfl⟩ (.string (bs ((o2 ++ [32]) ++ (fmtOpM ((p.threads[i]).m[k]))))) (fun w => eqGuard_str w) (fun w => sadd_run (by simp only [List.length_append, List.length_cons, List.length_nil]; omega) w) ?_
      refine ⟨⟨(k + 1, (o2 ++ [32]) ++ fmtOpM ((p.threads[i]).m[k])), hkl, by rw [decide_eq_false (by omega)]; exact k2, by simp only [List.length_append, List.length_cons, List.length_nil]; omega⟩, ?_, by simp only; omega⟩
      refine weak_mk [0] ?_ ?_ ?_ ?_ ?_ rfl rfl
      · repeat (first | exact trivial | refine ⟨⟨_, rfl, (by first | exact .of rfl | exact .lit rfl | exact .of (by first | ((exact congrArg (fun z => SV.v (Value.int .i64 z)) hw2))) | exact .lit (by first | ((exact congrArg (fun z => SV.v (Value.int .i64 z)) hw2)))), (by first | exact trivial | exact Nat.le_of_ble_eq_true rfl | exact small1 rfl)⟩, ?_⟩)
      · repeat (first | exact trivial | refine ⟨⟨(by first | exact .head _ | exact .tail _ (.head _) | exact .tail _ (.tail _ (.head _)) | exact .tail _ (.tail _ (.tail _ (.head _))) | exact .tail _ (.tail _ (.tail _ (.tail _ (.head _)))) | exact .tail _ (.tail _ (.tail _ (.tail _ (.tail _ (.head _))))) | exact .tail _ (.tail _ (.tail _ (.tail _ (.tail _ (.tail _ (.head _)))))) | exact .tail _ (.tail _ (.tail _ (.tail _ (.tail _ (.tail _ (.tail _ (.head _))))))) | exact .tail _ (.tail _ (.tail _ (.tail _ (.tail _ (.tail _ (.tail _ (.tail _ (.head _)))))))) | exact .tail _ (.tail _ (.tail _ (.tail _ (.tail _ (.tail _ (.tail _ (.tail _ (.tail _ (.head _)))))))))), Nat.le_of_ble_eq_true rfl⟩, ?_⟩)
      · repeat (first | exact trivial | refine ⟨⟨_, rfl, (by first | exact .of rfl | exact .lit rfl | exact .of (by first | ((exact congrArg (fun z => SV.v (Value.int .i64 z)) hw2))) | exact .lit (by first | ((exact congrArg (fun z => SV.v (Value.int .i64 z)) hw2)))), (by first | exact trivial | exact Nat.le_of_ble_eq_true rfl | exact small1 rfl)⟩, ?_⟩)
      · repeat (first | exact trivial | refine ⟨⟨_, rfl⟩, ?_⟩)
      · repeat (first | exact trivial | refine ⟨.inl ⟨_, rfl, (by first | rfl | ((exact congrArg (fun z => SV.v (Value.int .i64 z)) hw2)))⟩, ?_⟩ | refine ⟨.inr ⟨Nat.le_of_ble_eq_true rfl, rfl, rfl, rfl, rfl⟩, ?_⟩)
    have hge : (p.threads[i]).m.length ≤ k := by have := of_decide_eq_false g2; omega
    rw [List.drop_eq_nil_of_le hge, fmtOps] at k2
    rw [k2] at i2
    refine stop_bin rfl rfl rfl ⟨rfl, rfl⟩ (.string (bs (o2 ++ [10]))) (fun w => eqGuard_str w) (fun w => sadd_run (by simp only [List.length_cons, List.length_nil]; omega) w) ?_
    refine ⟨⟨(i + 1, o2 ++ [10]), hlt, i2, by simp only [List.length_append, List.length_cons, List.length_nil]; omega⟩, ?_, by simp only; omega⟩
    refine weak_mk [0] ?_ ?_ ?_ ?_ ?_ rfl rfl
    · repeat (first | exact trivial | refine ⟨⟨_, rfl, (by first | exact .of rfl | exact .lit rfl | exact .of (by first | ((exact congrArg (fun z => SV.v (Value.int .i64 z)) hw))) | exact .lit (by first | ((exact congrArg (fun z => SV.v (Value.int .i64 z)) hw)))), (by first | exact trivial | exact Nat.le_of_ble_eq_true rfl | exact small1 rfl)⟩, ?_⟩)
    · repeat (first | exact trivial | refine ⟨⟨(by first | exact .head _ | exact .tail _ (.head _) | exact .tail _ (.tail _ (.head _)) | exact .tail _ (.tail _ (.tail _ (.head _))) | exact .tail _ (.tail _ (.tail _ (.tail _ (.head _)))) | exact .tail _ (.tail _ (.tail _ (.tail _ (.tail _ (.head _))))) | exact .tail _ (.tail _ (.tail _ (.tail _ (.tail _ (.tail _ (.head _)))))) | exact .tail _ (.tail _ (.tail _ (.tail _ (.tail _ (.tail _ (.tail _ (.head _))))))) | exact .tail _ (.tail _ (.tail _ (.tail _ (.tail _ (.tail _ (.tail _ (.tail _ (.head _)))))))) | exact .tail _ (.tail _ (.tail _ (.tail _ (.tail _ (.tail _ (.tail _ (.tail _ (.tail _ (.head _)))))))))), Nat.le_of_ble_eq_true rfl⟩, ?_⟩)
    · repeat (first | exact trivial | refine ⟨⟨_, rfl, (by first | exact .of rfl | exact .lit rfl | exact .of (by first | ((exact congrArg (fun z => SV.v (Value.int .i64 z)) hw))) | exact .lit (by first | ((exact congrArg (fun z => SV.v (Value.int .i64 z)) hw)))), (by first | exact trivial | exact Nat.le_of_ble_eq_true rfl | exact small1 rfl)⟩, ?_⟩)
    · repeat (first | exact trivial | refine ⟨⟨_, rfl⟩, ?_⟩)
    · repeat (first | exact trivial | refine ⟨.inl ⟨_, rfl, (by first | rfl | ((exact congrArg (fun z => SV.v (Value.int .i64 z)) hw)))⟩, ?_⟩ | refine ⟨.inr ⟨Nat.le_of_ble_eq_true rfl, rfl, rfl, rfl, rfl⟩, ?_⟩)
  have hge : p.pure.threads.length ≤ i := by have := of_decide_eq_false g; omega
  rw [List.drop_eq_nil_of_le hge, fmtThreads] at i2
  rw [i2]
  exact retw [] ⟨rfl, rfl⟩ trivial rfl trivial (fun _ => rfl)

end Go.Proofs.Ytjkkoonennpceaa

namespace Go.Sx

open Go Go.RowKit

section

variable {P : Program} {f : FuncId} {fn : Func} {x : Code} {R : Ending → World → Prop} {ti : Nat → TI}

/-- A function that takes a pointer to a variable behind its other arguments. -/
theorem callsPGc_fn (hf : P.funcs[f]? = some fn) (hb : fn.body = some x) (hti : ∀ t, TIok P t (ti t)) (w : World) (N : Nat) (hN : fn.ntmps = N) (rs : List ResultVar) (hrs : fn.results.toList = rs) (g : Nat) (ty : TypeId) (cs : List Value) (sz : Nat) (hsz : listLen cs = sz) (hg : Blk w g ty cs) (G Fo : List Fct) (hF : AtG w G Fo) (hoff : ∀ f ∈ G ++ Fo, ∀ b, f.foot b → b ≠ g) (ho : initOk Fo)
    (l : List Value) (args : Array Value) (ha : args.toList = l ++ [.pointer (some ⟨g, 0, none⟩)]) (hl : Nat.ble (l.length + 1) N = true)
    (hv : vcCode (mkEnvPG P w N g G) ti x (bodyK (mkEnvPG P w N g G) ti rs R) (.mk (initT 0 (l.map .v ++ [.p 0 0])) 1 0 [(0, ty, sz)] (storeL 0 0 (cs.map .v) []) (G ++ Fo))) : Calls P f args w R := by
  subst hN; subst hrs
  rw [listLen_eq] at hsz
  subst hsz
  exact calls_sx hf hb (mkEnvPG P w fn.ntmps g G) rfl rfl hti (l.map .v ++ [.p 0 0]) 1 [(0, ty, cs.length)] (storeL 0 0 (cs.map .v) []) (G ++ Fo) (A := fun _ => g) (by simp [ha, show (SV.den (fun _ => g) ∘ SV.v) = id from rfl, SV.den, ptr])
    (fun s hs => by
      rcases List.mem_append.1 hs with hs | hs
      · obtain ⟨u, _, rfl⟩ := List.mem_map.1 hs; trivial
      · obtain rfl := List.mem_singleton.1 hs; exact Nat.zero_lt_one) (by simpa using Nat.le_of_ble_eq_true hl) (WD.initPG P w _ _ _ _ hg hF hoff ho) hv

end

theorem map_erase {α β : Type} (f : α → β) : ∀ (l : List α) (j : Nat), (l.eraseIdx j).map f = (l.map f).eraseIdx j
  | [], _ => rfl
  | x :: r, 0 => rfl
  | x :: r, j + 1 => by simp [map_erase f r j]

theorem small1 {n k o : Nat} (h : Nat.blt k n = true) : ∀ x ∈ [(k, o)], x.1 < n := fun x hx => by
  obtain rfl := List.mem_singleton.1 hx
  simpa using h

/-- The pair with this key is taken out. -/
def adel {β : Type} : List (Int × β) → Int → List (Int × β)
  | [], _ => []
  | (k, u) :: r, x => if k = x then r else (k, u) :: adel r x

theorem adel_some {β : Type} : ∀ {ps : List (Int × β)} {x : Int} {j : Nat} {u : β}, aidx ps x = some (j, u) → adel ps x = ps.eraseIdx j
  | [], x, j, u, h => by simp [aidx] at h
  | (k, q) :: r, x, j, u, h => by
    simp only [aidx] at h
    by_cases e : k = x
    · simp [e] at h
      obtain ⟨rfl, rfl⟩ := h
      simp [adel, e]
    · simp only [e, if_false, Option.map_eq_some_iff, Prod.mk.injEq] at h
      obtain ⟨p, h1, rfl, rfl⟩ := h
      simp [adel, e, adel_some (j := p.1) (u := p.2) h1]

theorem adel_none {β : Type} : ∀ {ps : List (Int × β)} {x : Int}, aidx ps x = none → adel ps x = ps
  | [], x, _ => rfl
  | (k, q) :: r, x, h => by
    simp only [aidx] at h
    by_cases e : k = x
    · simp [e] at h
    · simp only [e, if_false, Option.map_eq_none_iff] at h
      simp [adel, e, adel_none h]

section

variable {E : Env} {ti : Nat → TI} {A : Nat → Nat} {T : List (Nat × SV)} {n c : Nat} {B : List (Nat × TypeId × Nat)} {M Ms : List ((Nat × Nat) × SV)} {F Fs : List Fct} {o : Oper} {next : St → Prop} {a : Act} {w w' : World}

/-- A call of a closure that writes the rows ix and may write its variable. -/
theorem stop_callPGc (R : Value → List Value → List Fct → Prop) (ix : List Nat) {G : List Fct} {k : Call} {fo : Operand} {g : FuncId} {l : List SV} {d kb ty sz : Nat} {cs : List Value} (hc : callable E.P g = true)
    (hop : o.op = .call k) (hk : k.callee = .value fo) (hf : evalO T fo = some (.f g [(kb, 0)])) (ha : evalOs T k.args.toList = some l) (hd : Dst E o d) (hB : lookBT B kb = some (ty, sz)) (hM : loadN M kb 0 sz = some cs) (hG : FK F ix G) (hok : grantOk G)
    (hcall : ∀ A w ga, ga = A kb → WD E A n B M F w → Blk w ga ty cs → Calls E.P g ((l.map (SV.den A)) ++ [Value.pointer (some ⟨ga, 0, none⟩)]).toArray w (RetPG w ga ty sz G R))
    (hnext : ∀ v cs L, R v cs L → storeK kb 0 (cs.map .v) M fun M' => next (.mk ((d, .v v) :: T) n (c + 1) B M' (L ++ dropAt ix 0 F))) :
    OpW (opStop E o next T n c B M F) := by
  refine ⟨fun A a w hW hT => ?_⟩
  unfold Oper.wp
  rw [call_enter hT hc hop hk hf ha, Oper.upon_enter]
  refine (hcall A w (A kb) rfl hW (hW.blk (lookBT_mem hB) hM).1).mono ?_
  rintro e w' ⟨v, cs', L, rfl, he, hb, hl, hL, hoff, hR⟩
  have hn := hnext v cs' L hR
  rw [storeK_eq] at hn
  refine ⟨_, ⟨_, hW.callPG (lookBT_mem hB) hG hok he hb hl hL, ?_⟩, hn⟩
  rw [hd.1]
  exact (hT.step w').put (v := .v v) hd.lt trivial

theorem lookup_run {β : Type} {venc : β → Value} (hW : WD E A n B M F w) (hT : TD E A T n c a w) (k1 : Nat) {t kt et : TypeId} {x y : Operand} {r : Nat} {q : Int} {ps : List (Int × β)} {z : Value} {qk : IntKind}
    (hop : o.op = .lookup t x y false) (hx : evalO T x = some (.v (.map (some r)))) (hy : evalO T y = some (.v (.int .i64 q))) (hF : F[k1]? = some (fMap r venc ps))
    (ht : E.P.underlying t = some (.map kt et)) (hkt : E.P.underlying kt = some (.int qk)) (hz : (E.P.info? et).bind (·.zero) = some z) :
    (execOp a.eval o).run E.P w = .ok (.value (match aget ps q with | some v => venc v | none => z)) w := by
  obtain ⟨es, clock, h1, h2⟩ := (hW.nth k1 hF).1
  have hx' := (evalO_sound hT hx).1
  have hy' := (evalO_sound hT hy).1
  simp only [SV.den] at hx' hy'
  rw [aget_idx]
  simp only [execOp, hop, hx', hy', Instr.lookup, Sem.run_bind, underlying, run_program, Result.andThen_ok, ht, Sem.run_pure, run_getObj_map' h1, run_checkKey_int hkt, run_findKey_int hkt venc q es ps h2]
  cases aidx ps q with
  | none =>
    cases hi : E.P.info? et with
    | none => rw [hi] at hz; simp at hz
    | some i =>
      rw [hi] at hz
      simp at hz
      simp [zeroValue, typeInfo, hi, hz]
  | some p => simp

/-- m[k], in a region that draws. -/
theorem d_lookup {β : Type} {venc : β → Value} (k1 : Nat) {t kt et : TypeId} {x y : Operand} {r : Nat} {q : Int} {ps : List (Int × β)} {d : Nat} {z : Value} {qk : IntKind}
    (hop : o.op = .lookup t x y false) (hx : evalO T x = some (.v (.map (some r)))) (hy : evalO T y = some (.v (.int .i64 q))) (hF : F[k1]? = some (fMap r venc ps)) (hd : Dst E o d)
    (ht : E.P.underlying t = some (.map kt et)) (hkt : E.P.underlying kt = some (.int qk)) (hz : (E.P.info? et).bind (·.zero) = some z) (rv : Value) (hrv : (match aget ps q with | some v => venc v | none => z) = rv)
    (hnext : next (.mk ((d, .v rv) :: T) n (c + 1) B M F)) : OpW (opD E o Ms Fs next T n c B M F) := by
  subst hrv
  refine ⟨opD0.up fun hkf A a w hW hT => ?_⟩
  refine upon_of_value (lookup_run hW hT k1 hop hx hy hF ht hkt hz) ?_
  rw [hd.1]
  exact ⟨_, _, F, hW, fun w2 => (hT.step w2).put (v := .v _) hd.lt trivial, hkf, hnext⟩

theorem mapset_run {β : Type} {venc : β → Value} (hW : WD E A n B M F w) (hT : TD E A T n c a w) (k1 : Nat) (v : β) {t kt et : TypeId} {x y z : Operand} {r : Nat} {q : Int} {ps : List (Int × β)} {qk : IntKind} {s : SV}
    (hop : o.op = .mapUpdate t x y z) (hx : evalO T x = some (.v (.map (some r)))) (hy : evalO T y = some (.v (.int .i64 q))) (hz : evalO T z = some s) (hs : ∀ A, s.den A = venc v) (hF : F[k1]? = some (fMap r venc ps))
    (ht : E.P.underlying t = some (.map kt et)) (hkt : E.P.underlying kt = some (.int qk)) :
    ∃ ob, (execOp a.eval o).run E.P w = .ok .skip { w with heap := w.heap.setIfInBounds r ob } ∧ mapIs r venc (aset ps q v) { w with heap := w.heap.setIfInBounds r ob } := by
  obtain ⟨es, clock, h1, h2⟩ := (hW.nth k1 hF).1
  have hx' := (evalO_sound hT hx).1
  have hy' := (evalO_sound hT hy).1
  have hz' := (evalO_sound hT hz).1.trans (hs A)
  simp only [SV.den] at hx' hy'
  have hlt : r < w.heap.size := (Array.getElem?_eq_some_iff.1 h1).1
  cases hi : aidx ps q with
  | none =>
    refine ⟨.map (es.push { key := .int .i64 q, val := venc v, born := clock }) (clock + 1), ?_, ?_⟩
    · simp only [execOp, hop, hx', hy', hz', Instr.mapUpdate, Sem.run_bind, underlying, run_program, Result.andThen_ok, ht, Sem.run_pure, run_getObj_map' h1, run_checkKey_int hkt, run_findKey_int hkt venc q es ps h2, hi, Option.map_none, run_setObj_map' h1]
    · refine ⟨es.push { key := .int .i64 q, val := venc v, born := clock }, clock + 1, by simp [hlt], ?_⟩
      rw [aset_none v hi]
      simp only [prs, Array.toList_push, List.map_append, kv] at h2 ⊢
      rw [h2]; rfl
  | some p =>
    obtain ⟨j, u⟩ := p
    obtain ⟨g1, g2⟩ := aset_some v hi
    have hkey : (es[j]?).map (·.key) = some (.int .i64 q) := by
      have := congrArg (fun l => l[j]?) h2
      simp only [prs, kv, List.getElem?_map, g2, Option.map_some, Array.getElem?_toList] at this
      cases he : es[j]? with
      | none => rw [he] at this; simp at this
      | some e => rw [he] at this; simp at this; simp [this.1]
    refine ⟨.map (es.modify j fun e => { e with key := .int .i64 q, val := venc v }) clock, ?_, ?_⟩
    · have hks : (Instr.keyThatStays (.int .i64 q) (.int .i64 q)).run E.P w = .ok (.int .i64 q) w := by
        have hsb : Instr.sameBits 10000 (.int .i64 q) (.int .i64 q) = true := by
          show Instr.sameBits (9999 + 1) (.int .i64 q) (.int .i64 q) = true
          simp [Instr.sameBits]
        simp [Instr.keyThatStays, hsb]
      simp only [execOp, hop, hx', hy', hz', Instr.mapUpdate, Sem.run_bind, underlying, run_program, Result.andThen_ok, ht, Sem.run_pure, run_getObj_map' h1, run_checkKey_int hkt, run_findKey_int hkt venc q es ps h2, hi, Option.map_some, hkey, Option.getD_some, hks, run_setObj_map' h1]
    · refine ⟨es.modify j fun e => { e with key := .int .i64 q, val := venc v }, clock, by simp [hlt], ?_⟩
      rw [g1]
      simp only [prs, kv, Array.toList_modify, List.map_set] at h2 ⊢
      rw [← h2]
      apply List.ext_getElem?
      intro k
      simp only [List.getElem?_map, List.getElem?_modify, List.getElem?_set]
      by_cases e : j = k
      · subst e
        simp only [if_true]
        cases he : es.toList[j]? with
        | none =>
          have : es[j]? = none := by simpa using he
          rw [this] at hkey; simp at hkey
        | some x =>
          have hl : j < es.size := by simpa using (List.getElem?_eq_some_iff.1 he).1
          simp [hl]
      · simp [e]

/-- m[k] = v, in a region that draws. -/
theorem d_mapset {β : Type} {venc : β → Value} (k1 : Nat) (v : β) {t kt et : TypeId} {x y z : Operand} {r : Nat} {q : Int} {ps : List (Int × β)} {qk : IntKind} {s : SV}
    (hop : o.op = .mapUpdate t x y z) (hx : evalO T x = some (.v (.map (some r)))) (hy : evalO T y = some (.v (.int .i64 q))) (hz : evalO T z = some s) (hs : ∀ A, s.den A = venc v) (hF : F[k1]? = some (fMap r venc ps)) (hd : o.dst = none)
    (ht : E.P.underlying t = some (.map kt et)) (hkt : E.P.underlying kt = some (.int qk)) (qs : List (Int × β)) (hqs : aset ps q v = qs) (hkeep : keepF Fs F → keepF Fs (F.eraseIdx k1))
    (hnext : next (.mk T n (c + 1) B M (fMap r venc qs :: F.eraseIdx k1))) : OpW (opD E o Ms Fs next T n c B M F) := by
  subst hqs
  refine ⟨fun hm hf A a w hW hT => ?_⟩
  obtain ⟨ob, h3, h4⟩ := mapset_run hW hT k1 v hop hx hy hz hs hF ht hkt
  refine upon_of_skip h3 ?_
  rw [hd]
  exact ⟨A, _, n, _, B, M, _, fun _ _ => rfl, Nat.le_refl _, fun _ h => h, hm, fun f hfs => List.mem_cons_of_mem _ (hkeep hf f hfs), hW.turnMap hF ob h4, fun w2 => hT.step w2, hnext⟩

/-- delete(m, k) -/
theorem stop_delete {β : Type} {venc : β → Value} (k1 : Nat) {k : Call} {t tk kt et : TypeId} {x y : Operand} {r : Nat} {q : Int} {ps : List (Int × β)} {qk : IntKind}
    (hop : o.op = .call k) (hk : k.callee = .builtin .delete) (ha : k.args.toList = [x, y]) (hty : k.argTypes.toList = [t, tk])
    (hx : evalO T x = some (.v (.map (some r)))) (hy : evalO T y = some (.v (.int .i64 q))) (hF : F[k1]? = some (fMap r venc ps)) (hd : o.dst = none)
    (ht : E.P.underlying t = some (.map kt et)) (hkt : E.P.underlying kt = some (.int qk)) (qs : List (Int × β)) (hqs : adel ps q = qs)
    (hnext : next (.mk T n (c + 1) B M (fMap r venc qs :: F.eraseIdx k1))) : OpW (opStop E o next T n c B M F) := by
  subst hqs
  refine ⟨fun A a w hW hT => ?_⟩
  obtain ⟨es, clock, h1, h2⟩ := (hW.nth k1 hF).1
  have hx' := (evalO_sound hT hx).1
  have hy' := (evalO_sound hT hy).1
  simp only [SV.den] at hx' hy'
  have hlt : r < w.heap.size := (Array.getElem?_eq_some_iff.1 h1).1
  have hargs : k.args = #[x, y] := by apply Array.ext'; simpa using ha
  have htys : k.argTypes = #[t, tk] := by apply Array.ext'; simpa using hty
  have key : ∃ ob, (Builtin.delete_ #[t, tk] o.type #[.map (some r), .int .i64 q]).run E.P w = .ok (.tuple #[]) { w with heap := w.heap.setIfInBounds r ob } ∧ mapIs r venc (adel ps q) { w with heap := w.heap.setIfInBounds r ob } := by
    cases hi : aidx ps q with
    | none =>
      refine ⟨.map es clock, ?_, ⟨es, clock, by simp [hlt], by rw [adel_none hi]; exact h2⟩⟩
      simp [Builtin.delete_, underlying, ht, run_getObj_map' h1, run_checkKey_int hkt, run_findKey_int hkt venc q es ps h2, hi, run_setObj_map' h1]
    | some p =>
      obtain ⟨j, u⟩ := p
      refine ⟨.map (es.eraseIdxIfInBounds j) clock, ?_, ⟨es.eraseIdxIfInBounds j, clock, by simp [hlt], ?_⟩⟩
      · simp [Builtin.delete_, underlying, ht, run_getObj_map' h1, run_checkKey_int hkt, run_findKey_int hkt venc q es ps h2, hi, run_setObj_map' h1]
      · rw [adel_some hi]
        simp only [prs, kv] at h2 ⊢
        rw [Array.toList_eraseIdxIfInBounds, map_erase, h2, map_erase]
  obtain ⟨ob, h3, h4⟩ := key
  have hr : (execOp a.eval o).run E.P w = .ok (.value (.tuple #[])) { w with heap := w.heap.setIfInBounds r ob } := by
    simp only [execOp, hop, resolve, hk, hargs, htys, Sem.run_bind, Sem.run_pure, Result.andThen_ok, invoke, builtin, List.map_toArray, List.map_cons, List.map_nil, hx', hy', h3]
  refine upon_of_value hr ?_
  rw [hd]
  exact ⟨_, ⟨_, hW.turnMap hF ob h4, hT.step _⟩, hnext⟩

/-- len(m) -/
theorem stop_lenM {β : Type} {venc : β → Value} (k1 : Nat) {k : Call} {t kt et : TypeId} {x : Operand} {r : Nat} {ps : List (Int × β)} {d : Nat}
    (hop : o.op = .call k) (hk : k.callee = .builtin .len) (ha : k.args.toList = [x]) (hty : k.argTypes.toList = [t])
    (hx : evalO T x = some (.v (.map (some r)))) (hF : F[k1]? = some (fMap r venc ps)) (hd : Dst E o d) (ht : E.P.underlying t = some (.map kt et))
    (hnext : next (.mk ((d, .v (.int .i64 (ps.length : Int))) :: T) n c B M F)) : OpW (opStop E o next T n c B M F) := by
  refine ⟨fun A a w hW hT => ?_⟩
  obtain ⟨es, clock, h1, h2⟩ := (hW.nth k1 hF).1
  have hx' := (evalO_sound hT hx).1
  simp only [SV.den] at hx'
  have hargs : k.args = #[x] := by apply Array.ext'; simpa using ha
  have htys : k.argTypes = #[t] := by apply Array.ext'; simpa using hty
  have hl : es.size = ps.length := by have := congrArg List.length h2; simpa [prs, kv] using this
  have hr : (execOp a.eval o).run E.P w = .ok (.value (.int .i64 (ps.length : Int))) w := by
    simp [execOp, hop, resolve, hk, hargs, htys, invoke, builtin, hx', Builtin.len_, underlying, ht, run_getObj_map' h1, hl, goInt]
  refine upon_of_value hr ?_
  rw [hd.1]
  exact ⟨_, ⟨_, hW, hT.put (v := .v (.int .i64 (ps.length : Int))) hd.lt trivial⟩, hnext⟩

end

end Go.Sx
