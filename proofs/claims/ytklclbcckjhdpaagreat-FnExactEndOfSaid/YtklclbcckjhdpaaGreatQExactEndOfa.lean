/- FnExactEndOf: called with any arguments it returns true. No condition. -/
import Derived.Test.YtklclbcckjhdpaaGreatQExactStateFitsi
namespace Go.Proofs.YtklclbcckjhdpaaGreat

open Go Go.Sx Go.RowKit

theorem cl28 : callable Tryz.prog 28 = true := by kernel_rfl

theorem cl29 : callable Tryz.prog 29 = true := by kernel_rfl

theorem cl31 : callable Tryz.prog 31 = true := by kernel_rfl

theorem cl32 : callable Tryz.prog 32 = true := by kernel_rfl

theorem cl33 : callable Tryz.prog 33 = true := by kernel_rfl

theorem cl61 : callable Tryz.prog 61 = true := by kernel_rfl

theorem cl108 : callable Tryz.prog 108 = true := by kernel_rfl

theorem cl109 : callable Tryz.prog 109 = true := by kernel_rfl

theorem cl172 : callable Tryz.prog 172 = true := by kernel_rfl

end Go.Proofs.YtklclbcckjhdpaaGreat

namespace Go.Sx

open Go Go.RowKit

section

variable {α : Type} {enc : α → List Value} {sz : Nat}

end

section

variable {E : Env} {ti : Nat → TI} {A : Nat → Nat} {T : List (Nat × SV)} {n c : Nat} {B : List (Nat × TypeId × Nat)} {M : List ((Nat × Nat) × SV)} {F Fs : List Fct} {o : Oper} {next : St → Prop} {a : Act} {w : World}

/-- A binary operation that yields r. -/
theorem stop_bin {op : BinOp} {t t' : TypeId} {x y : Operand} {u v : Value} {d : Nat} (hop : o.op = .binOp op t x y t') (hx : evalV T x = some u) (hy : evalV T y = some v) (hd : Dst E o d) (r : Value)
    (hg : ∀ w, (eqGuard op t x y u v).run E.P w = .ok () w) (hb : ∀ w, (binOp op t u v).run E.P w = .ok r w) (hnext : next (.mk ((d, .v r) :: T) n c B M F)) :
    OpW (opStop E o next T n c B M F) := by
  refine ⟨fun A a w hW hT => ?_⟩
  refine upon_of_value (bin_run hT hop hx hy (hg w) (hb w)) ?_
  rw [hd.1]
  exact ⟨_, ⟨_, hW, hT.put (v := .v r) hd.lt trivial⟩, hnext⟩

end

end Go.Sx

namespace Go.Proofs.YtklclbcckjhdpaaGreat

open Go Go.Sx Go.RowKit

def evReady (i : Nat) (x : Int) : List Int := if x = 0 ∨ x = 2 then [(i : Int)] else []

/-- The threads that can make a step. -/
def readyM (s : State) : List Int := if s.fault = 0 then evL evReady 0 s.status else []

theorem readyL_len (xs : List Int) : (evL evReady 0 xs).length ≤ xs.length := by
  have := evL_len (f := evReady) (C := 1) (i := 0) (xs := xs) fun i x _ => by unfold evReady; split <;> simp
  omega

set_option maxHeartbeats 4000000 in
set_option maxRecDepth 100000 in
theorem ready_c (s : StateH) (w : World) (h : At w [fR (stateO s)]) (hb : s.status.length ≤ 1048576) :
    Calls Tryz.prog 61 #[stateV s] w (Ret w fun v L => ∃ y : Sl, v = y.val (readyM s.pure).length ∧ L = [own y 3 cInt 1 (readyM s.pure)]) := by
  refine calls1 Tryz.func61 rfl tabOk w _ rfl _ rfl _ h ⟨rfl, rfl, trivial⟩ _ (by decide) ?_
  refine CaseB.mk (fun g => ?_) (fun g => ?_)
  · have n : ¬ s.fault = 0 := by simpa using g
    have e : readyM s.pure = [] := if_neg n
    rw [e]
    exact retw [90] ⟨⟨none, 0⟩, rfl, rfl⟩ ⟨.inr ⟨Nat.le_of_ble_eq_true rfl, rfl, rfl, rfl, rfl⟩, trivial⟩ rfl ⟨rfl, trivial⟩ (fun _ => rfl)
  have f0 : s.fault = 0 := by simpa using g
  have e : readyM s.pure = evL evReady 0 s.status := if_pos f0
  rw [e]
  refine LoopW.mk ⟨{ q : Nat × Sl × List Int // q.1 ≤ s.status.length ∧ q.2.2 = evL evReady 0 (s.status.take q.1) },
    fun q => .mk [(1, .p 0 0), (3, .v (q.1.2.1.val q.1.2.2.length)), (10, .v (s.h1.val s.status.length)), (11, .v (.int .i64 (s.status.length : Int))), (12, .v (.int .i64 (q.1.1 : Int)))] 1 0 [(0, 41, 9)] [((0, 0), .v (s.h0.val s.places.length))] [own q.1.2.1 3 cInt 1 q.1.2.2, fR (stateO s)],
    fun q => s.status.length - q.1.1, ⟨(0, ⟨none, 0⟩, []), Nat.zero_le _, rfl⟩, ?_, ?_⟩
  · refine weak_mk [90, 0] ?_ ?_ ?_ ?_ ?_ rfl rfl
    · repeat (first | exact trivial | refine ⟨⟨_, rfl, (by first | exact .of rfl | exact .lit rfl | exact .of (by first | (rfl)) | exact .lit (by first | (rfl))), (by first | exact trivial | exact Nat.le_of_ble_eq_true rfl | exact small1 rfl)⟩, ?_⟩)
    · repeat (first | exact trivial | refine ⟨⟨(by first | exact .head _ | exact .tail _ (.head _) | exact .tail _ (.tail _ (.head _)) | exact .tail _ (.tail _ (.tail _ (.head _))) | exact .tail _ (.tail _ (.tail _ (.tail _ (.head _)))) | exact .tail _ (.tail _ (.tail _ (.tail _ (.tail _ (.head _))))) | exact .tail _ (.tail _ (.tail _ (.tail _ (.tail _ (.tail _ (.head _)))))) | exact .tail _ (.tail _ (.tail _ (.tail _ (.tail _ (.tail _ (.tail _ (.head _))))))) | exact .tail _ (.tail _ (.tail _ (.tail _ (.tail _ (.tail _ (.tail _ (.tail _ (.head _)))))))) | exact .tail _ (.tail _ (.tail _ (.tail _ (.tail _ (.tail _ (.tail _ (.tail _ (.tail _ (.head _)))))))))), Nat.le_of_ble_eq_true rfl⟩, ?_⟩)
    · repeat (first | exact trivial | refine ⟨⟨_, rfl, (by first | exact .of rfl | exact .lit rfl | exact .of (by first | (rfl)) | exact .lit (by first | (rfl))), (by first | exact trivial | exact Nat.le_of_ble_eq_true rfl | exact small1 rfl)⟩, ?_⟩)
    · repeat (first | exact trivial | refine ⟨⟨_, rfl⟩, ?_⟩)
    · repeat (first | exact trivial | refine ⟨.inl ⟨_, rfl, (by first | rfl | (rfl))⟩, ?_⟩ | refine ⟨.inr ⟨Nat.le_of_ble_eq_true rfl, rfl, rfl, rfl, rfl⟩, ?_⟩)
  rintro ⟨⟨k, y, xs⟩, hk, hx⟩
  simp only at hk hx
  refine CaseB.mk (fun g => ?_) (fun g => ?_)
  · have hlt : k < s.status.length := by simpa using g
    have hw := e_succ k _ hlt (by omega)
    have hsucc := evL_succ evReady s.status hlt
    have hl : xs.length ≤ 1048576 := by have := readyL_len (s.status.take k); rw [← hx] at this; simp at this; omega
    refine stop_idx encInt tabOk rfl rfl rfl rfl rfl ⟨rfl, rfl⟩ (rdVia 1 rfl (.ofR (stateO_status s))) k rfl (by first | omega | (simp; done) | (simp; omega) | (unfold maxLen; omega) | (unfold maxLen; simp; done) | (unfold maxLen; simp; omega)) (fun ad => ?_)
    refine CaseB.mk (fun g => ?_) (fun g0 => ?_)
    · have c : s.status[k] = 0 ∨ s.status[k] = 2 := .inl (by simpa using g)
      refine AllSl.mk fun b => ?_
      refine stop_app encInt 1 tabOk (ys := [(k : Int)]) rfl rfl rfl rfl rfl rfl rfl rfl rfl (by decide) ⟨rfl, rfl⟩ rfl (by first | exact rdAt 0 rfl | exact rdOwnAt 0 rfl | exact rdAt 1 rfl | exact rdOwnAt 1 rfl | exact rdAt 2 rfl | exact rdOwnAt 2 rfl | exact rdAt 3 rfl | exact rdOwnAt 3 rfl | exact rdAt 4 rfl | exact rdOwnAt 4 rfl | exact rdAt 5 rfl | exact rdOwnAt 5 rfl | exact rdAt 6 rfl | exact rdOwnAt 6 rfl | exact rdAt 7 rfl | exact rdOwnAt 7 rfl | exact rdAt 8 rfl | exact rdOwnAt 8 rfl | exact rdAt 9 rfl | exact rdOwnAt 9 rfl | exact rdAt 10 rfl | exact rdOwnAt 10 rfl | exact rdAt 11 rfl | exact rdOwnAt 11 rfl | exact rdAt 12 rfl | exact rdOwnAt 12 rfl | exact rdAt 13 rfl | exact rdOwnAt 13 rfl | exact rdAt 14 rfl | exact rdOwnAt 14 rfl | exact rdAt 15 rfl | exact rdOwnAt 15 rfl | exact rdAt 16 rfl | exact rdOwnAt 16 rfl | exact rdAt 17 rfl | exact rdOwnAt 17 rfl | exact rdAt 18 rfl | exact rdOwnAt 18 rfl | exact rdAt 19 rfl | exact rdOwnAt 19 rfl | exact rdAt 20 rfl | exact rdOwnAt 20 rfl | exact rdAt 21 rfl | exact rdOwnAt 21 rfl | exact rdAt 22 rfl | exact rdOwnAt 22 rfl | exact rdAt 23 rfl | exact rdOwnAt 23 rfl) (by first | omega | (simp; done) | (simp; omega) | (unfold maxLen; omega) | (unfold maxLen; simp; done) | (unfold maxLen; simp; omega)) (by first | omega | (simp; done) | (simp; omega) | (unfold maxLen; omega) | (unfold maxLen; simp; done) | (unfold maxLen; simp; omega)) (fun z => ?_)
      refine ⟨⟨(k + 1, z, xs ++ [(k : Int)]), by omega, by simp only [hsucc, evReady, if_pos c, hx]⟩, ?_, by simp only; omega⟩
      refine weak_mk [0, 2] ?_ ?_ ?_ ?_ ?_ rfl rfl
      · repeat (first | exact trivial | refine ⟨⟨_, rfl, (by first | exact .of rfl | exact .lit rfl | exact .of (by first | ((exact congrArg (fun z => SV.v (Value.int .i64 z)) hw))) | exact .lit (by first | ((exact congrArg (fun z => SV.v (Value.int .i64 z)) hw)))), (by first | exact trivial | exact Nat.le_of_ble_eq_true rfl | exact small1 rfl)⟩, ?_⟩)
      · repeat (first | exact trivial | refine ⟨⟨(by first | exact .head _ | exact .tail _ (.head _) | exact .tail _ (.tail _ (.head _)) | exact .tail _ (.tail _ (.tail _ (.head _))) | exact .tail _ (.tail _ (.tail _ (.tail _ (.head _)))) | exact .tail _ (.tail _ (.tail _ (.tail _ (.tail _ (.head _))))) | exact .tail _ (.tail _ (.tail _ (.tail _ (.tail _ (.tail _ (.head _)))))) | exact .tail _ (.tail _ (.tail _ (.tail _ (.tail _ (.tail _ (.tail _ (.head _))))))) | exact .tail _ (.tail _ (.tail _ (.tail _ (.tail _ (.tail _ (.tail _ (.tail _ (.head _)))))))) | exact .tail _ (.tail _ (.tail _ (.tail _ (.tail _ (.tail _ (.tail _ (.tail _ (.tail _ (.head _)))))))))), Nat.le_of_ble_eq_true rfl⟩, ?_⟩)
      · repeat (first | exact trivial | refine ⟨⟨_, rfl, (by first | exact .of rfl | exact .lit rfl | exact .of (by first | ((exact congrArg (fun z => SV.v (Value.int .i64 z)) hw))) | exact .lit (by first | ((exact congrArg (fun z => SV.v (Value.int .i64 z)) hw)))), (by first | exact trivial | exact Nat.le_of_ble_eq_true rfl | exact small1 rfl)⟩, ?_⟩)
      · repeat (first | exact trivial | refine ⟨⟨_, rfl⟩, ?_⟩)
      · repeat (first | exact trivial | refine ⟨.inl ⟨_, rfl, (by first | rfl | ((exact congrArg (fun z => SV.v (Value.int .i64 z)) hw)))⟩, ?_⟩ | refine ⟨.inr ⟨Nat.le_of_ble_eq_true rfl, rfl, rfl, rfl, rfl⟩, ?_⟩)
    have n0 : ¬ s.status[k] = 0 := by simpa using g0
    refine CaseB.mk (fun g => ?_) (fun g => ?_)
    · have c : s.status[k] = 0 ∨ s.status[k] = 2 := .inr (by simpa using g)
      refine AllSl.mk fun b => ?_
      refine stop_app encInt 1 tabOk (ys := [(k : Int)]) rfl rfl rfl rfl rfl rfl rfl rfl rfl (by decide) ⟨rfl, rfl⟩ rfl (by first | exact rdAt 0 rfl | exact rdOwnAt 0 rfl | exact rdAt 1 rfl | exact rdOwnAt 1 rfl | exact rdAt 2 rfl | exact rdOwnAt 2 rfl | exact rdAt 3 rfl | exact rdOwnAt 3 rfl | exact rdAt 4 rfl | exact rdOwnAt 4 rfl | exact rdAt 5 rfl | exact rdOwnAt 5 rfl | exact rdAt 6 rfl | exact rdOwnAt 6 rfl | exact rdAt 7 rfl | exact rdOwnAt 7 rfl | exact rdAt 8 rfl | exact rdOwnAt 8 rfl | exact rdAt 9 rfl | exact rdOwnAt 9 rfl | exact rdAt 10 rfl | exact rdOwnAt 10 rfl | exact rdAt 11 rfl | exact rdOwnAt 11 rfl | exact rdAt 12 rfl | exact rdOwnAt 12 rfl | exact rdAt 13 rfl | exact rdOwnAt 13 rfl | exact rdAt 14 rfl | exact rdOwnAt 14 rfl | exact rdAt 15 rfl | exact rdOwnAt 15 rfl | exact rdAt 16 rfl | exact rdOwnAt 16 rfl | exact rdAt 17 rfl | exact rdOwnAt 17 rfl | exact rdAt 18 rfl | exact rdOwnAt 18 rfl | exact rdAt 19 rfl | exact rdOwnAt 19 rfl | exact rdAt 20 rfl | exact rdOwnAt 20 rfl | exact rdAt 21 rfl | exact rdOwnAt 21 rfl | exact rdAt 22 rfl | exact rdOwnAt 22 rfl | exact rdAt 23 rfl | exact rdOwnAt 23 rfl) (by first | omega | (simp; done) | (simp; omega) | (unfold maxLen; omega) | (unfold maxLen; simp; done) | (unfold maxLen; simp; omega)) (by first | omega | (simp; done) | (simp; omega) | (unfold maxLen; omega) | (unfold maxLen; simp; done) | (unfold maxLen; simp; omega)) (fun z => ?_)
      refine ⟨⟨(k + 1, z, xs ++ [(k : Int)]), by omega, by simp only [hsucc, evReady, if_pos c, hx]⟩, ?_, by simp only; omega⟩
      refine weak_mk [0, 2] ?_ ?_ ?_ ?_ ?_ rfl rfl
      · repeat (first | exact trivial | refine ⟨⟨_, rfl, (by first | exact .of rfl | exact .lit rfl | exact .of (by first | ((exact congrArg (fun z => SV.v (Value.int .i64 z)) hw))) | exact .lit (by first | ((exact congrArg (fun z => SV.v (Value.int .i64 z)) hw)))), (by first | exact trivial | exact Nat.le_of_ble_eq_true rfl | exact small1 rfl)⟩, ?_⟩)
      · repeat (first | exact trivial | refine ⟨⟨(by first | exact .head _ | exact .tail _ (.head _) | exact .tail _ (.tail _ (.head _)) | exact .tail _ (.tail _ (.tail _ (.head _))) | exact .tail _ (.tail _ (.tail _ (.tail _ (.head _)))) | exact .tail _ (.tail _ (.tail _ (.tail _ (.tail _ (.head _))))) | exact .tail _ (.tail _ (.tail _ (.tail _ (.tail _ (.tail _ (.head _)))))) | exact .tail _ (.tail _ (.tail _ (.tail _ (.tail _ (.tail _ (.tail _ (.head _))))))) | exact .tail _ (.tail _ (.tail _ (.tail _ (.tail _ (.tail _ (.tail _ (.tail _ (.head _)))))))) | exact .tail _ (.tail _ (.tail _ (.tail _ (.tail _ (.tail _ (.tail _ (.tail _ (.tail _ (.head _)))))))))), Nat.le_of_ble_eq_true rfl⟩, ?_⟩)
      · repeat (first | exact trivial | refine ⟨⟨_, rfl, (by first | exact .of rfl | exact .lit rfl | exact .of (by first | ((exact congrArg (fun z => SV.v (Value.int .i64 z)) hw))) | exact .lit (by first | ((exact congrArg (fun z => SV.v (Value.int .i64 z)) hw)))), (by first | exact trivial | exact Nat.le_of_ble_eq_true rfl | exact small1 rfl)⟩, ?_⟩)
      · repeat (first | exact trivial | refine ⟨⟨_, rfl⟩, ?_⟩)
      · repeat (first | exact trivial | refine ⟨.inl ⟨_, rfl, (by first | rfl | ((exact congrArg (fun z => SV.v (Value.int .i64 z)) hw)))⟩, ?_⟩ | refine ⟨.inr ⟨Nat.le_of_ble_eq_true rfl, rfl, rfl, rfl, rfl⟩, ?_⟩)
    have n2 : ¬ s.status[k] = 2 := by simpa using g
    refine ⟨⟨(k + 1, y, xs), by omega, by simp only [hsucc, evReady, if_neg (show ¬ (s.status[k] = 0 ∨ s.status[k] = 2) from fun h => h.elim n0 n2), hx, List.append_nil]⟩, ?_, by simp only; omega⟩
    refine weak_mk [0, 1] ?_ ?_ ?_ ?_ ?_ rfl rfl
    · repeat (first | exact trivial | refine ⟨⟨_, rfl, (by first | exact .of rfl | exact .lit rfl | exact .of (by first | ((exact congrArg (fun z => SV.v (Value.int .i64 z)) hw))) | exact .lit (by first | ((exact congrArg (fun z => SV.v (Value.int .i64 z)) hw)))), (by first | exact trivial | exact Nat.le_of_ble_eq_true rfl | exact small1 rfl)⟩, ?_⟩)
    · repeat (first | exact trivial | refine ⟨⟨(by first | exact .head _ | exact .tail _ (.head _) | exact .tail _ (.tail _ (.head _)) | exact .tail _ (.tail _ (.tail _ (.head _))) | exact .tail _ (.tail _ (.tail _ (.tail _ (.head _)))) | exact .tail _ (.tail _ (.tail _ (.tail _ (.tail _ (.head _))))) | exact .tail _ (.tail _ (.tail _ (.tail _ (.tail _ (.tail _ (.head _)))))) | exact .tail _ (.tail _ (.tail _ (.tail _ (.tail _ (.tail _ (.tail _ (.head _))))))) | exact .tail _ (.tail _ (.tail _ (.tail _ (.tail _ (.tail _ (.tail _ (.tail _ (.head _)))))))) | exact .tail _ (.tail _ (.tail _ (.tail _ (.tail _ (.tail _ (.tail _ (.tail _ (.tail _ (.head _)))))))))), Nat.le_of_ble_eq_true rfl⟩, ?_⟩)
    · repeat (first | exact trivial | refine ⟨⟨_, rfl, (by first | exact .of rfl | exact .lit rfl | exact .of (by first | ((exact congrArg (fun z => SV.v (Value.int .i64 z)) hw))) | exact .lit (by first | ((exact congrArg (fun z => SV.v (Value.int .i64 z)) hw)))), (by first | exact trivial | exact Nat.le_of_ble_eq_true rfl | exact small1 rfl)⟩, ?_⟩)
    · repeat (first | exact trivial | refine ⟨⟨_, rfl⟩, ?_⟩)
    · repeat (first | exact trivial | refine ⟨.inl ⟨_, rfl, (by first | rfl | ((exact congrArg (fun z => SV.v (Value.int .i64 z)) hw)))⟩, ?_⟩ | refine ⟨.inr ⟨Nat.le_of_ble_eq_true rfl, rfl, rfl, rfl, rfl⟩, ?_⟩)
  have hge : s.status.length ≤ k := by simpa using g
  rw [List.take_of_length_le hge] at hx
  subst hx
  exact retw [0] ⟨y, rfl, rfl⟩ ⟨.inl ⟨_, rfl, rfl⟩, trivial⟩ rfl ⟨rfl, trivial⟩ (fun _ => rfl)

set_option maxRecDepth 100000 in
theorem allDone1_c (x : Int) (w : World) : Calls Tryz.prog 172 #[.int .i64 x] w (Ret w fun v L => v = .bool (decide (x ≠ 3)) ∧ L = []) := by
  refine calls1 Tryz.func172 rfl tabOk w _ rfl _ rfl [] trivial trivial _ (by decide) ?_
  exact retw [] ⟨congrArg Value.bool (show (x != 3) = decide (x ≠ 3) by by_cases h : x = 3 <;> simp [h]), rfl⟩ trivial rfl trivial (fun _ => rfl)

set_option maxRecDepth 100000 in
theorem allDone_c (s : StateH) (w : World) (h : At w [fR (stateO s)]) (hb : s.status.length ≤ 1048576) :
    Calls Tryz.prog 108 #[stateV s] w (Tells w (∀ x ∈ s.status, x = 3)) := by
  refine calls1 Tryz.func108 rfl tabOk w _ rfl _ rfl _ h ⟨rfl, rfl, trivial⟩ _ (by decide) ?_
  refine stop_call _ cl171 rfl rfl rfl rfl ⟨rfl, rfl⟩ (fun A w hW => containsFunc_c (fv := 172) (cap := #[]) (q := fun x => decide (x ≠ 3)) (G := []) cl172 (fun x w h => allDone1_c x w) s.h1 s.status w ⟨hW.get 0 rfl (.ofR (stateO_status s)), fB_of (fun g hg => by cases hg), trivial⟩ (by omega)) ?_
  rintro v L ⟨b, rfl, hbb, rfl⟩
  refine retw [] ⟨_, rfl, ?_, rfl⟩ trivial rfl trivial (fun _ => rfl)
  cases b with
  | true =>
    obtain ⟨x, hx, hne⟩ := hbb.1 rfl
    exact ⟨fun e => (by cases e), fun e => absurd (e x hx) (by simpa using hne)⟩
  | false =>
    refine ⟨fun _ x hx => Classical.byContradiction fun n => ?_, fun _ => rfl⟩
    have := hbb.2 ⟨x, hx, by simpa using n⟩
    cases this

end Go.Proofs.YtklclbcckjhdpaaGreat

namespace Go.Proofs.YtklclbcckjhdpaaGreat

open Go Go.Sx Go.RowKit

set_option maxHeartbeats 4000000 in
set_option maxRecDepth 100000 in
theorem readyS_c (s : StateH) (w : World) (h : At w [fR (stateO s)]) (hb : s.status.length ≤ 1048576) :
    Calls Tryz.prog 109 #[stateV s] w (Ret w fun v L => ∃ y : Sl, v = y.val (readyM s.pure).length ∧ L = [own y 3 cInt 1 (readyM s.pure)]) := by
  refine calls1 Tryz.func109 rfl tabOk w _ rfl _ rfl _ h ⟨rfl, rfl, trivial⟩ _ (by decide) ?_
  refine AllSl.mk fun y0 => ?_
  refine LoopW.mk ⟨{ q : Nat × Sl × List Int // q.1 ≤ s.status.length ∧ q.2.2 = evL evReady 0 (s.status.take q.1) ∧ (q.1 = 0 ∨ s.fault = 0) },
    fun q => .mk [(1, .p 0 0), (3, .v (q.1.2.1.val q.1.2.2.length)), (4, .v (.int .i64 (q.1.1 : Int)))] 1 0 [(0, 41, 9)] [((0, 1), .v (s.h1.val s.status.length)), ((0, 8), .v (.int .i64 s.fault))] [own q.1.2.1 3 cInt 1 q.1.2.2, fR (stateO s)],
    fun q => s.status.length - q.1.1, ⟨(0, y0, []), Nat.zero_le _, rfl, .inl rfl⟩, ?_, ?_⟩
  · refine weak_mk [0, 1] ?_ ?_ ?_ ?_ ?_ rfl rfl
    · repeat (first | exact trivial | refine ⟨⟨_, rfl, (by first | exact .of rfl | exact .lit rfl | exact .of (by first | (rfl)) | exact .lit (by first | (rfl))), (by first | exact trivial | exact Nat.le_of_ble_eq_true rfl | exact small1 rfl)⟩, ?_⟩)
    · repeat (first | exact trivial | refine ⟨⟨(by first | exact .head _ | exact .tail _ (.head _) | exact .tail _ (.tail _ (.head _)) | exact .tail _ (.tail _ (.tail _ (.head _))) | exact .tail _ (.tail _ (.tail _ (.tail _ (.head _)))) | exact .tail _ (.tail _ (.tail _ (.tail _ (.tail _ (.head _))))) | exact .tail _ (.tail _ (.tail _ (.tail _ (.tail _ (.tail _ (.head _)))))) | exact .tail _ (.tail _ (.tail _ (.tail _ (.tail _ (.tail _ (.tail _ (.head _))))))) | exact .tail _ (.tail _ (.tail _ (.tail _ (.tail _ (.tail _ (.tail _ (.tail _ (.head _)))))))) | exact .tail _ (.tail _ (.tail _ (.tail _ (.tail _ (.tail _ (.tail _ (.tail _ (.tail _ (.head _)))))))))), Nat.le_of_ble_eq_true rfl⟩, ?_⟩)
    · repeat (first | exact trivial | refine ⟨⟨_, rfl, (by first | exact .of rfl | exact .lit rfl | exact .of (by first | (rfl)) | exact .lit (by first | (rfl))), (by first | exact trivial | exact Nat.le_of_ble_eq_true rfl | exact small1 rfl)⟩, ?_⟩)
    · repeat (first | exact trivial | refine ⟨⟨_, rfl⟩, ?_⟩)
    · repeat (first | exact trivial | refine ⟨.inl ⟨_, rfl, (by first | rfl | (rfl))⟩, ?_⟩ | refine ⟨.inr ⟨Nat.le_of_ble_eq_true rfl, rfl, rfl, rfl, rfl⟩, ?_⟩)
  rintro ⟨⟨k, y, xs⟩, hk, hx, hkf⟩
  simp only at hk hx hkf
  have hend : s.status.length ≤ k ∨ ¬ s.fault = 0 → readyM s.pure = xs := fun hn => by
    by_cases f0 : s.fault = 0
    · rw [readyM, if_pos (show s.pure.fault = 0 from f0), hx, List.take_of_length_le (hn.resolve_right fun h => h f0)]; rfl
    · rw [readyM, if_neg (show ¬ s.pure.fault = 0 from f0), hx, hkf.resolve_right f0]; rfl
  refine CaseB.mk (fun g => ?_) (fun g => ?_)
  · have hlt : k < s.status.length := by simpa using g
    refine CaseB.mk (fun g => ?_) (fun g => ?_)
    · have f0 : s.fault = 0 := by simpa using g
      have hw := e_succ k _ hlt (by omega)
      have hsucc := evL_succ evReady s.status hlt
      have hl : xs.length ≤ 1048576 := by have := readyL_len (s.status.take k); rw [← hx] at this; simp at this; omega
      refine stop_idx encInt tabOk rfl rfl rfl rfl rfl ⟨rfl, rfl⟩ (rdVia 1 rfl (.ofR (stateO_status s))) k rfl (by first | omega | (simp; done) | (simp; omega) | (unfold maxLen; omega) | (unfold maxLen; simp; done) | (unfold maxLen; simp; omega)) (fun ad => ?_)
      refine CaseB.mk (fun g => ?_) (fun g0 => ?_)
      · have c : s.status[k] = 0 ∨ s.status[k] = 2 := .inl (by simpa using g)
        refine AllSl.mk fun b => ?_
        refine stop_app encInt 1 tabOk (ys := [(k : Int)]) rfl rfl rfl rfl rfl rfl rfl rfl rfl (by decide) ⟨rfl, rfl⟩ rfl (by first | exact rdAt 0 rfl | exact rdOwnAt 0 rfl | exact rdAt 1 rfl | exact rdOwnAt 1 rfl | exact rdAt 2 rfl | exact rdOwnAt 2 rfl | exact rdAt 3 rfl | exact rdOwnAt 3 rfl | exact rdAt 4 rfl | exact rdOwnAt 4 rfl | exact rdAt 5 rfl | exact rdOwnAt 5 rfl | exact rdAt 6 rfl | exact rdOwnAt 6 rfl | exact rdAt 7 rfl | exact rdOwnAt 7 rfl | exact rdAt 8 rfl | exact rdOwnAt 8 rfl | exact rdAt 9 rfl | exact rdOwnAt 9 rfl | exact rdAt 10 rfl | exact rdOwnAt 10 rfl | exact rdAt 11 rfl | exact rdOwnAt 11 rfl | exact rdAt 12 rfl | exact rdOwnAt 12 rfl | exact rdAt 13 rfl | exact rdOwnAt 13 rfl | exact rdAt 14 rfl | exact rdOwnAt 14 rfl | exact rdAt 15 rfl | exact rdOwnAt 15 rfl | exact rdAt 16 rfl | exact rdOwnAt 16 rfl | exact rdAt 17 rfl | exact rdOwnAt 17 rfl | exact rdAt 18 rfl | exact rdOwnAt 18 rfl | exact rdAt 19 rfl | exact rdOwnAt 19 rfl | exact rdAt 20 rfl | exact rdOwnAt 20 rfl | exact rdAt 21 rfl | exact rdOwnAt 21 rfl | exact rdAt 22 rfl | exact rdOwnAt 22 rfl | exact rdAt 23 rfl | exact rdOwnAt 23 rfl) (by first | omega | (simp; done) | (simp; omega) | (unfold maxLen; omega) | (unfold maxLen; simp; done) | (unfold maxLen; simp; omega)) (by first | omega | (simp; done) | (simp; omega) | (unfold maxLen; omega) | (unfold maxLen; simp; done) | (unfold maxLen; simp; omega)) (fun z => ?_)
        refine ⟨⟨(k + 1, z, xs ++ [(k : Int)]), by omega, by simp only [hsucc, evReady, if_pos c, hx], .inr f0⟩, ?_, by simp only; omega⟩
        refine weak_mk [0, 2] ?_ ?_ ?_ ?_ ?_ rfl rfl
        · repeat (first | exact trivial | refine ⟨⟨_, rfl, (by first | exact .of rfl | exact .lit rfl | exact .of (by first | ((exact congrArg (fun z => SV.v (Value.int .i64 z)) hw))) | exact .lit (by first | ((exact congrArg (fun z => SV.v (Value.int .i64 z)) hw)))), (by first | exact trivial | exact Nat.le_of_ble_eq_true rfl | exact small1 rfl)⟩, ?_⟩)
        · repeat (first | exact trivial | refine ⟨⟨(by first | exact .head _ | exact .tail _ (.head _) | exact .tail _ (.tail _ (.head _)) | exact .tail _ (.tail _ (.tail _ (.head _))) | exact .tail _ (.tail _ (.tail _ (.tail _ (.head _)))) | exact .tail _ (.tail _ (.tail _ (.tail _ (.tail _ (.head _))))) | exact .tail _ (.tail _ (.tail _ (.tail _ (.tail _ (.tail _ (.head _)))))) | exact .tail _ (.tail _ (.tail _ (.tail _ (.tail _ (.tail _ (.tail _ (.head _))))))) | exact .tail _ (.tail _ (.tail _ (.tail _ (.tail _ (.tail _ (.tail _ (.tail _ (.head _)))))))) | exact .tail _ (.tail _ (.tail _ (.tail _ (.tail _ (.tail _ (.tail _ (.tail _ (.tail _ (.head _)))))))))), Nat.le_of_ble_eq_true rfl⟩, ?_⟩)
        · repeat (first | exact trivial | refine ⟨⟨_, rfl, (by first | exact .of rfl | exact .lit rfl | exact .of (by first | ((exact congrArg (fun z => SV.v (Value.int .i64 z)) hw))) | exact .lit (by first | ((exact congrArg (fun z => SV.v (Value.int .i64 z)) hw)))), (by first | exact trivial | exact Nat.le_of_ble_eq_true rfl | exact small1 rfl)⟩, ?_⟩)
        · repeat (first | exact trivial | refine ⟨⟨_, rfl⟩, ?_⟩)
        · repeat (first | exact trivial | refine ⟨.inl ⟨_, rfl, (by first | rfl | ((exact congrArg (fun z => SV.v (Value.int .i64 z)) hw)))⟩, ?_⟩ | refine ⟨.inr ⟨Nat.le_of_ble_eq_true rfl, rfl, rfl, rfl, rfl⟩, ?_⟩)
      have n0 : ¬ s.status[k] = 0 := by simpa using g0
      refine stop_idx encInt tabOk rfl rfl rfl rfl rfl ⟨rfl, rfl⟩ (rdVia 1 rfl (.ofR (stateO_status s))) k rfl (by first | omega | (simp; done) | (simp; omega) | (unfold maxLen; omega) | (unfold maxLen; simp; done) | (unfold maxLen; simp; omega)) (fun ad2 => ?_)
      refine CaseB.mk (fun g => ?_) (fun g => ?_)
      · have c : s.status[k] = 0 ∨ s.status[k] = 2 := .inr (by simpa using g)
        refine AllSl.mk fun b => ?_
        refine stop_app encInt 1 tabOk (ys := [(k : Int)]) rfl rfl rfl rfl rfl rfl rfl rfl rfl (by decide) ⟨rfl, rfl⟩ rfl (by first | exact rdAt 0 rfl | exact rdOwnAt 0 rfl | exact rdAt 1 rfl | exact rdOwnAt 1 rfl | exact rdAt 2 rfl | exact rdOwnAt 2 rfl | exact rdAt 3 rfl | exact rdOwnAt 3 rfl | exact rdAt 4 rfl | exact rdOwnAt 4 rfl | exact rdAt 5 rfl | exact rdOwnAt 5 rfl | exact rdAt 6 rfl | exact rdOwnAt 6 rfl | exact rdAt 7 rfl | exact rdOwnAt 7 rfl | exact rdAt 8 rfl | exact rdOwnAt 8 rfl | exact rdAt 9 rfl | exact rdOwnAt 9 rfl | exact rdAt 10 rfl | exact rdOwnAt 10 rfl | exact rdAt 11 rfl | exact rdOwnAt 11 rfl | exact rdAt 12 rfl | exact rdOwnAt 12 rfl | exact rdAt 13 rfl | exact rdOwnAt 13 rfl | exact rdAt 14 rfl | exact rdOwnAt 14 rfl | exact rdAt 15 rfl | exact rdOwnAt 15 rfl | exact rdAt 16 rfl | exact rdOwnAt 16 rfl | exact rdAt 17 rfl | exact rdOwnAt 17 rfl | exact rdAt 18 rfl | exact rdOwnAt 18 rfl | exact rdAt 19 rfl | exact rdOwnAt 19 rfl | exact rdAt 20 rfl | exact rdOwnAt 20 rfl | exact rdAt 21 rfl | exact rdOwnAt 21 rfl | exact rdAt 22 rfl | exact rdOwnAt 22 rfl | exact rdAt 23 rfl | exact rdOwnAt 23 rfl) (by first | omega | (simp; done) | (simp; omega) | (unfold maxLen; omega) | (unfold maxLen; simp; done) | (unfold maxLen; simp; omega)) (by first | omega | (simp; done) | (simp; omega) | (unfold maxLen; omega) | (unfold maxLen; simp; done) | (unfold maxLen; simp; omega)) (fun z => ?_)
        refine ⟨⟨(k + 1, z, xs ++ [(k : Int)]), by omega, by simp only [hsucc, evReady, if_pos c, hx], .inr f0⟩, ?_, by simp only; omega⟩
        refine weak_mk [0, 2] ?_ ?_ ?_ ?_ ?_ rfl rfl
        · repeat (first | exact trivial | refine ⟨⟨_, rfl, (by first | exact .of rfl | exact .lit rfl | exact .of (by first | ((exact congrArg (fun z => SV.v (Value.int .i64 z)) hw))) | exact .lit (by first | ((exact congrArg (fun z => SV.v (Value.int .i64 z)) hw)))), (by first | exact trivial | exact Nat.le_of_ble_eq_true rfl | exact small1 rfl)⟩, ?_⟩)
        · repeat (first | exact trivial | refine ⟨⟨(by first | exact .head _ | exact .tail _ (.head _) | exact .tail _ (.tail _ (.head _)) | exact .tail _ (.tail _ (.tail _ (.head _))) | exact .tail _ (.tail _ (.tail _ (.tail _ (.head _)))) | exact .tail _ (.tail _ (.tail _ (.tail _ (.tail _ (.head _))))) | exact .tail _ (.tail _ (.tail _ (.tail _ (.tail _ (.tail _ (.head _)))))) | exact .tail _ (.tail _ (.tail _ (.tail _ (.tail _ (.tail _ (.tail _ (.head _))))))) | exact .tail _ (.tail _ (.tail _ (.tail _ (.tail _ (.tail _ (.tail _ (.tail _ (.head _)))))))) | exact .tail _ (.tail _ (.tail _ (.tail _ (.tail _ (.tail _ (.tail _ (.tail _ (.tail _ (.head _)))))))))), Nat.le_of_ble_eq_true rfl⟩, ?_⟩)
        · repeat (first | exact trivial | refine ⟨⟨_, rfl, (by first | exact .of rfl | exact .lit rfl | exact .of (by first | ((exact congrArg (fun z => SV.v (Value.int .i64 z)) hw))) | exact .lit (by first | ((exact congrArg (fun z => SV.v (Value.int .i64 z)) hw)))), (by first | exact trivial | exact Nat.le_of_ble_eq_true rfl | exact small1 rfl)⟩, ?_⟩)
        · repeat (first | exact trivial | refine ⟨⟨_, rfl⟩, ?_⟩)
        · repeat (first | exact trivial | refine ⟨.inl ⟨_, rfl, (by first | rfl | ((exact congrArg (fun z => SV.v (Value.int .i64 z)) hw)))⟩, ?_⟩ | refine ⟨.inr ⟨Nat.le_of_ble_eq_true rfl, rfl, rfl, rfl, rfl⟩, ?_⟩)
      have n2 : ¬ s.status[k] = 2 := by simpa using g
      refine ⟨⟨(k + 1, y, xs), by omega, by simp only [hsucc, evReady, if_neg (show ¬ (s.status[k] = 0 ∨ s.status[k] = 2) from fun h => h.elim n0 n2), hx, List.append_nil], .inr f0⟩, ?_, by simp only; omega⟩
      refine weak_mk [0, 1] ?_ ?_ ?_ ?_ ?_ rfl rfl
      · repeat (first | exact trivial | refine ⟨⟨_, rfl, (by first | exact .of rfl | exact .lit rfl | exact .of (by first | ((exact congrArg (fun z => SV.v (Value.int .i64 z)) hw))) | exact .lit (by first | ((exact congrArg (fun z => SV.v (Value.int .i64 z)) hw)))), (by first | exact trivial | exact Nat.le_of_ble_eq_true rfl | exact small1 rfl)⟩, ?_⟩)
      · repeat (first | exact trivial | refine ⟨⟨(by first | exact .head _ | exact .tail _ (.head _) | exact .tail _ (.tail _ (.head _)) | exact .tail _ (.tail _ (.tail _ (.head _))) | exact .tail _ (.tail _ (.tail _ (.tail _ (.head _)))) | exact .tail _ (.tail _ (.tail _ (.tail _ (.tail _ (.head _))))) | exact .tail _ (.tail _ (.tail _ (.tail _ (.tail _ (.tail _ (.head _)))))) | exact .tail _ (.tail _ (.tail _ (.tail _ (.tail _ (.tail _ (.tail _ (.head _))))))) | exact .tail _ (.tail _ (.tail _ (.tail _ (.tail _ (.tail _ (.tail _ (.tail _ (.head _)))))))) | exact .tail _ (.tail _ (.tail _ (.tail _ (.tail _ (.tail _ (.tail _ (.tail _ (.tail _ (.head _)))))))))), Nat.le_of_ble_eq_true rfl⟩, ?_⟩)
      · repeat (first | exact trivial | refine ⟨⟨_, rfl, (by first | exact .of rfl | exact .lit rfl | exact .of (by first | ((exact congrArg (fun z => SV.v (Value.int .i64 z)) hw))) | exact .lit (by first | ((exact congrArg (fun z => SV.v (Value.int .i64 z)) hw)))), (by first | exact trivial | exact Nat.le_of_ble_eq_true rfl | exact small1 rfl)⟩, ?_⟩)
      · repeat (first | exact trivial | refine ⟨⟨_, rfl⟩, ?_⟩)
      · repeat (first | exact trivial | refine ⟨.inl ⟨_, rfl, (by first | rfl | ((exact congrArg (fun z => SV.v (Value.int .i64 z)) hw)))⟩, ?_⟩ | refine ⟨.inr ⟨Nat.le_of_ble_eq_true rfl, rfl, rfl, rfl, rfl⟩, ?_⟩)
    · have f0 : ¬ s.fault = 0 := by simpa using g
      rw [hend (.inr f0)]
      exact retw [0] ⟨y, rfl, rfl⟩ ⟨.inl ⟨_, rfl, rfl⟩, trivial⟩ rfl ⟨rfl, trivial⟩ (fun _ => rfl)
  have hge : s.status.length ≤ k := by simpa using g
  rw [hend (.inl hge)]
  exact retw [0] ⟨y, rfl, rfl⟩ ⟨.inl ⟨_, rfl, rfl⟩, trivial⟩ rfl ⟨rfl, trivial⟩ (fun _ => rfl)

/-- A run is over. -/
def Over (p : Prog) (s : State) : Prop := Fits p s ∧ s.fault = 0 ∧ ∀ x ∈ s.status, x = 3

/-- A run is stuck. -/
def Stuck (p : Prog) (s : State) : Prop := Fits p s ∧ s.fault = 0 ∧ readyM s = [] ∧ ¬ ∀ x ∈ s.status, x = 3

set_option maxHeartbeats 4000000 in
set_option maxRecDepth 100000 in
theorem isOver_c (p : ProgH) (s : StateH) (w : World) (h : At w [fR (progO p), fR (stateO s)]) (hp : p.pure.small20) (hs : s.pure.small20) :
    Calls Tryz.prog 29 #[progV p, stateV s] w (Tells w (Over p.pure s.pure)) := by
  have hb : s.status.length ≤ 1048576 := hs.2.1
  refine calls2 Tryz.func29 rfl tabOk w _ rfl _ rfl _ h ⟨rfl, rfl, rfl, rfl, trivial⟩ _ _ (by decide) ?_
  refine stop_call _ cl24 rfl rfl rfl rfl ⟨rfl, rfl⟩ (fun A w hW => stateFits_c p s w ⟨hW.get 0 rfl (.refl _), hW.get 1 rfl (.refl _), trivial⟩ hp hs) ?_
  rintro v L ⟨b, rfl, hbb, rfl⟩
  refine CaseB.mk (fun g => ?_) (fun g => ?_)
  · have ft := hbb.1 (by simpa using g)
    refine CaseB.mk (fun g => ?_) (fun g => ?_)
    · have f0 : s.fault = 0 := by simpa using g
      refine stop_call _ cl108 rfl rfl rfl rfl ⟨rfl, rfl⟩ (fun A w hW => allDone_c s w ⟨hW.get 1 rfl (.refl _), trivial⟩ hb) ?_
      rintro v L ⟨b2, rfl, hb2, rfl⟩
      exact retw [] ⟨_, rfl, hb2.trans ⟨fun e => ⟨ft, f0, e⟩, fun e => e.2.2⟩, rfl⟩ trivial rfl trivial (fun _ => rfl)
    · have f0 : ¬ s.fault = 0 := by simpa using g
      exact retw [] ⟨_, rfl, tno fun e => f0 e.2.1, rfl⟩ trivial rfl trivial (fun _ => rfl)
  · exact retw [] ⟨_, rfl, tno fun e => (by rw [hbb.2 e.1] at g; cases g), rfl⟩ trivial rfl trivial (fun _ => rfl)

set_option maxHeartbeats 4000000 in
set_option maxRecDepth 100000 in
theorem isOverS_c (p : ProgH) (s : StateH) (w : World) (h : At w [fR (progO p), fR (stateO s)]) (hp : p.pure.small20) (hs : s.pure.small20) :
    Calls Tryz.prog 28 #[progV p, stateV s] w (Tells w (Over p.pure s.pure)) := by
  have hb : s.status.length ≤ 1048576 := hs.2.1
  refine calls2 Tryz.func28 rfl tabOk w _ rfl _ rfl _ h ⟨rfl, rfl, rfl, rfl, trivial⟩ _ _ (by decide) ?_
  refine LoopW.mk ⟨{ k : Nat // k ≤ s.status.length ∧ ∀ x ∈ s.status.take k, x = 3 },
    fun k => .mk [(2, .p 0 0), (3, .p 1 0), (5, .v (.int .i64 (k.1 : Int)))] 2 0 [(0, 46, 5), (1, 41, 9)] [((0, 0), .v (p.h0.val p.sems.length)), ((0, 1), .v (p.h1.val p.groups.length)), ((0, 2), .v (p.h2.val p.barriers.length)), ((0, 3), .v (p.h3.val p.rooms.length)), ((0, 4), .v (p.h4.val p.threads.length)), ((1, 0), .v (s.h0.val s.places.length)), ((1, 1), .v (s.h1.val s.status.length)), ((1, 2), .v (s.h2.val s.sems.length)), ((1, 3), .v (s.h3.val s.onces.length)), ((1, 4), .v (s.h4.val s.groups.length)), ((1, 5), .v (s.h5.val s.barriers.length)), ((1, 6), .v (s.h6.val s.chans.length)), ((1, 7), .v (s.h7.val s.said.length)), ((1, 8), .v (.int .i64 s.fault))] [fR (progO p), fR (stateO s)],
    fun k => s.status.length - k.1, ⟨0, Nat.zero_le _, by simp⟩, ?_, ?_⟩
  · refine weak_mk [0, 1] ?_ ?_ ?_ ?_ ?_ rfl rfl
    · repeat (first | exact trivial | refine ⟨⟨_, rfl, (by first | exact .of rfl | exact .lit rfl | exact .of (by first | (rfl)) | exact .lit (by first | (rfl))), (by first | exact trivial | exact Nat.le_of_ble_eq_true rfl | exact small1 rfl)⟩, ?_⟩)
    · repeat (first | exact trivial | refine ⟨⟨(by first | exact .head _ | exact .tail _ (.head _) | exact .tail _ (.tail _ (.head _)) | exact .tail _ (.tail _ (.tail _ (.head _))) | exact .tail _ (.tail _ (.tail _ (.tail _ (.head _)))) | exact .tail _ (.tail _ (.tail _ (.tail _ (.tail _ (.head _))))) | exact .tail _ (.tail _ (.tail _ (.tail _ (.tail _ (.tail _ (.head _)))))) | exact .tail _ (.tail _ (.tail _ (.tail _ (.tail _ (.tail _ (.tail _ (.head _))))))) | exact .tail _ (.tail _ (.tail _ (.tail _ (.tail _ (.tail _ (.tail _ (.tail _ (.head _)))))))) | exact .tail _ (.tail _ (.tail _ (.tail _ (.tail _ (.tail _ (.tail _ (.tail _ (.tail _ (.head _)))))))))), Nat.le_of_ble_eq_true rfl⟩, ?_⟩)
    · repeat (first | exact trivial | refine ⟨⟨_, rfl, (by first | exact .of rfl | exact .lit rfl | exact .of (by first | (rfl)) | exact .lit (by first | (rfl))), (by first | exact trivial | exact Nat.le_of_ble_eq_true rfl | exact small1 rfl)⟩, ?_⟩)
    · repeat (first | exact trivial | refine ⟨⟨_, rfl⟩, ?_⟩)
    · repeat (first | exact trivial | refine ⟨.inl ⟨_, rfl, (by first | rfl | (rfl))⟩, ?_⟩ | refine ⟨.inr ⟨Nat.le_of_ble_eq_true rfl, rfl, rfl, rfl, rfl⟩, ?_⟩)
  rintro ⟨k, hk, hinv⟩
  refine CaseB.mk (fun g => ?_) (fun g => ?_)
  · have hlt : k < s.status.length := by simpa using g
    have hw := e_succ k _ hlt (by omega)
    refine stop_idx encInt tabOk rfl rfl rfl rfl rfl ⟨rfl, rfl⟩ (rdVia 1 rfl (.ofR (stateO_status s))) k rfl (by first | omega | (simp; done) | (simp; omega) | (unfold maxLen; omega) | (unfold maxLen; simp; done) | (unfold maxLen; simp; omega)) (fun ad => ?_)
    refine CaseB.mk (fun g => ?_) (fun g => ?_)
    · have n : ¬ s.status[k] = 3 := by simpa using g
      exact retw [] ⟨_, rfl, tno fun e => n (e.2.2 _ (List.getElem_mem hlt)), rfl⟩ trivial rfl trivial (fun _ => rfl)
    have q1 : s.status[k] = 3 := by simpa using g
    refine ⟨⟨k + 1, by omega, fun x hm => ?_⟩, ?_, by simp only; omega⟩
    · rw [List.take_succ_eq_append_getElem hlt] at hm
      rcases List.mem_append.1 hm with hm | hm
      · exact hinv x hm
      · rw [List.mem_singleton.1 hm]; exact q1
    · refine weak_mk [0, 1] ?_ ?_ ?_ ?_ ?_ rfl rfl
      · repeat (first | exact trivial | refine ⟨⟨_, rfl, (by first | exact .of rfl | exact .lit rfl | exact .of (by first | ((exact congrArg (fun z => SV.v (Value.int .i64 z)) hw))) | exact .lit (by first | ((exact congrArg (fun z => SV.v (Value.int .i64 z)) hw)))), (by first | exact trivial | exact Nat.le_of_ble_eq_true rfl | exact small1 rfl)⟩, ?_⟩)
      · repeat (first | exact trivial | refine ⟨⟨(by first | exact .head _ | exact .tail _ (.head _) | exact .tail _ (.tail _ (.head _)) | exact .tail _ (.tail _ (.tail _ (.head _))) | exact .tail _ (.tail _ (.tail _ (.tail _ (.head _)))) | exact .tail _ (.tail _ (.tail _ (.tail _ (.tail _ (.head _))))) | exact .tail _ (.tail _ (.tail _ (.tail _ (.tail _ (.tail _ (.head _)))))) | exact .tail _ (.tail _ (.tail _ (.tail _ (.tail _ (.tail _ (.tail _ (.head _))))))) | exact .tail _ (.tail _ (.tail _ (.tail _ (.tail _ (.tail _ (.tail _ (.tail _ (.head _)))))))) | exact .tail _ (.tail _ (.tail _ (.tail _ (.tail _ (.tail _ (.tail _ (.tail _ (.tail _ (.head _)))))))))), Nat.le_of_ble_eq_true rfl⟩, ?_⟩)
      · repeat (first | exact trivial | refine ⟨⟨_, rfl, (by first | exact .of rfl | exact .lit rfl | exact .of (by first | ((exact congrArg (fun z => SV.v (Value.int .i64 z)) hw))) | exact .lit (by first | ((exact congrArg (fun z => SV.v (Value.int .i64 z)) hw)))), (by first | exact trivial | exact Nat.le_of_ble_eq_true rfl | exact small1 rfl)⟩, ?_⟩)
      · repeat (first | exact trivial | refine ⟨⟨_, rfl⟩, ?_⟩)
      · repeat (first | exact trivial | refine ⟨.inl ⟨_, rfl, (by first | rfl | ((exact congrArg (fun z => SV.v (Value.int .i64 z)) hw)))⟩, ?_⟩ | refine ⟨.inr ⟨Nat.le_of_ble_eq_true rfl, rfl, rfl, rfl, rfl⟩, ?_⟩)
  have hge : s.status.length ≤ k := by simpa using g
  rw [List.take_of_length_le hge] at hinv
  refine stop_call _ cl23 rfl rfl rfl rfl ⟨rfl, rfl⟩ (fun A w hW => stateFitsS_c p s w ⟨hW.get 0 rfl (.refl _), hW.get 1 rfl (.refl _), trivial⟩ hp hs) ?_
  rintro v L ⟨b, rfl, hbb, rfl⟩
  refine CaseB.mk (fun g => ?_) (fun g => ?_)
  · have ft := hbb.1 (by simpa using g)
    refine retw [] ⟨_, rfl, ?_, rfl⟩ trivial rfl trivial (fun _ => rfl)
    rw [beq_iff_eq]
    exact ⟨fun e => ⟨ft, e, hinv⟩, fun e => e.2.1⟩
  · exact retw [] ⟨_, rfl, tno fun e => (by rw [hbb.2 e.1] at g; cases g), rfl⟩ trivial rfl trivial (fun _ => rfl)

set_option maxHeartbeats 4000000 in
set_option maxRecDepth 100000 in
theorem isStuck_c (p : ProgH) (s : StateH) (w : World) (h : At w [fR (progO p), fR (stateO s)]) (hp : p.pure.small20) (hs : s.pure.small20) :
    Calls Tryz.prog 31 #[progV p, stateV s] w (Tells w (Stuck p.pure s.pure)) := by
  have hb : s.status.length ≤ 1048576 := hs.2.1
  refine calls2 Tryz.func31 rfl tabOk w _ rfl _ rfl _ h ⟨rfl, rfl, rfl, rfl, trivial⟩ _ _ (by decide) ?_
  refine stop_call _ cl24 rfl rfl rfl rfl ⟨rfl, rfl⟩ (fun A w hW => stateFits_c p s w ⟨hW.get 0 rfl (.refl _), hW.get 1 rfl (.refl _), trivial⟩ hp hs) ?_
  rintro v L ⟨b, rfl, hbb, rfl⟩
  refine CaseB.mk (fun g => ?_) (fun g => ?_)
  · have ft := hbb.1 (by simpa using g)
    refine CaseB.mk (fun g => ?_) (fun g => ?_)
    · have f0 : s.fault = 0 := by simpa using g
      refine stop_call _ cl61 rfl rfl rfl rfl ⟨rfl, rfl⟩ (fun A w hW => ready_c s w ⟨hW.get 1 rfl (.refl _), trivial⟩ hb) ?_
      rintro v L ⟨y, rfl, rfl⟩
      refine CaseB.mk (fun g => ?_) (fun g => ?_)
      · have r0 : readyM s.pure = [] := List.eq_nil_of_length_eq_zero (by have g' : ((readyM s.pure).length : Int) = 0 := by simpa using g
                                                                          omega)
        refine stop_call _ cl108 rfl rfl rfl rfl ⟨rfl, rfl⟩ (fun A w hW => allDone_c s w ⟨hW.get 2 rfl (.refl _), trivial⟩ hb) ?_
        rintro v L ⟨b2, rfl, hb2, rfl⟩
        refine retw [] ⟨_, rfl, ?_, rfl⟩ trivial rfl trivial (fun _ => rfl)
        constructor
        · intro e
          exact ⟨ft, f0, r0, fun h => by rw [hb2.2 h] at e; cases e⟩
        · intro e
          cases b2 with
          | true => exact (e.2.2.2 (hb2.1 rfl)).elim
          | false => rfl
      · have r0 : ¬ readyM s.pure = [] := fun e => by rw [e] at g; simp at g
        exact retw [] ⟨_, rfl, tno fun e => r0 e.2.2.1, rfl⟩ trivial rfl trivial (fun _ => rfl)
    · have f0 : ¬ s.fault = 0 := by simpa using g
      exact retw [] ⟨_, rfl, tno fun e => f0 e.2.1, rfl⟩ trivial rfl trivial (fun _ => rfl)
  · exact retw [] ⟨_, rfl, tno fun e => (by rw [hbb.2 e.1] at g; cases g), rfl⟩ trivial rfl trivial (fun _ => rfl)

end Go.Proofs.YtklclbcckjhdpaaGreat

namespace Go.Proofs.YtklclbcckjhdpaaGreat

open Go Go.Sx Go.RowKit

open Classical in

/-- How a run ends. -/
noncomputable def endM (p : Prog) (s : State) : ByteArray :=
  if ¬ Fits p s then ⟨#[]⟩ else if s.fault ≠ 0 then ⟨#[102, 97, 117, 108, 116]⟩ else if ∀ x ∈ s.status, x = 3 then ⟨#[111, 118, 101, 114]⟩ else if readyM s = [] then ⟨#[115, 116, 117, 99, 107]⟩ else ⟨#[111, 112, 101, 110]⟩

set_option maxHeartbeats 4000000 in
set_option maxRecDepth 100000 in
theorem endOf_c (p : ProgH) (s : StateH) (w : World) (h : At w [fR (progO p), fR (stateO s)]) (hp : p.pure.small20) (hs : s.pure.small20) :
    Calls Tryz.prog 33 #[progV p, stateV s] w (Ret w fun v L => v = .string (endM p.pure s.pure) ∧ L = []) := by
  have hb : s.status.length ≤ 1048576 := hs.2.1
  refine calls2 Tryz.func33 rfl tabOk w _ rfl _ rfl _ h ⟨rfl, rfl, rfl, rfl, trivial⟩ _ _ (by decide) ?_
  refine stop_call _ cl24 rfl rfl rfl rfl ⟨rfl, rfl⟩ (fun A w hW => stateFits_c p s w ⟨hW.get 0 rfl (.refl _), hW.get 1 rfl (.refl _), trivial⟩ hp hs) ?_
  rintro v L ⟨b, rfl, hbb, rfl⟩
  refine CaseB.mk (fun g => ?_) (fun g => ?_)
  · have n : ¬ Fits p.pure s.pure := fun e => by rw [hbb.2 e] at g; cases g
    exact retw [] ⟨by rw [endM, if_pos n], rfl⟩ trivial rfl trivial (fun _ => rfl)
  have ft := hbb.1 (by simpa using g)
  refine CaseB.mk (fun g => ?_) (fun g => ?_)
  · have f0 : s.pure.fault ≠ 0 := by have g' : ¬ s.fault = 0 := by simpa using g
                                     exact g'
    exact retw [] ⟨by rw [endM, if_neg (not_not_intro ft), if_pos f0], rfl⟩ trivial rfl trivial (fun _ => rfl)
  have f0 : ¬ s.pure.fault ≠ 0 := by have g' : s.fault = 0 := by simpa using g
                                     exact not_not_intro g'
  refine stop_call _ cl29 rfl rfl rfl rfl ⟨rfl, rfl⟩ (fun A w hW => isOver_c p s w ⟨hW.get 0 rfl (.refl _), hW.get 1 rfl (.refl _), trivial⟩ hp hs) ?_
  rintro v L ⟨b2, rfl, hb2, rfl⟩
  refine CaseB.mk (fun g => ?_) (fun g => ?_)
  · have o := (hb2.1 g).2.2
    exact retw [] ⟨by rw [endM, if_neg (not_not_intro ft), if_neg f0, if_pos o], rfl⟩ trivial rfl trivial (fun _ => rfl)
  have o : ¬ ∀ x ∈ s.pure.status, x = 3 := fun e => by rw [hb2.2 ⟨ft, Classical.not_not.1 f0, e⟩] at g; cases g
  refine stop_call _ cl31 rfl rfl rfl rfl ⟨rfl, rfl⟩ (fun A w hW => isStuck_c p s w ⟨hW.get 0 rfl (.refl _), hW.get 1 rfl (.refl _), trivial⟩ hp hs) ?_
  rintro v L ⟨b3, rfl, hb3, rfl⟩
  refine CaseB.mk (fun g => ?_) (fun g => ?_)
  · have r := (hb3.1 g).2.2.1
    exact retw [] ⟨by rw [endM, if_neg (not_not_intro ft), if_neg f0, if_neg o, if_pos r], rfl⟩ trivial rfl trivial (fun _ => rfl)
  have r : ¬ readyM s.pure = [] := fun e => by rw [hb3.2 ⟨ft, Classical.not_not.1 f0, e, o⟩] at g; cases g
  exact retw [] ⟨by rw [endM, if_neg (not_not_intro ft), if_neg f0, if_neg o, if_neg r], rfl⟩ trivial rfl trivial (fun _ => rfl)

set_option maxHeartbeats 4000000 in
set_option maxRecDepth 100000 in
theorem endOfS_c (p : ProgH) (s : StateH) (w : World) (h : At w [fR (progO p), fR (stateO s)]) (hp : p.pure.small20) (hs : s.pure.small20) :
    Calls Tryz.prog 32 #[progV p, stateV s] w (Ret w fun v L => v = .string (endM p.pure s.pure) ∧ L = []) := by
  have hb : s.status.length ≤ 1048576 := hs.2.1
  refine calls2 Tryz.func32 rfl tabOk w _ rfl _ rfl _ h ⟨rfl, rfl, rfl, rfl, trivial⟩ _ _ (by decide) ?_
  refine stop_call _ cl23 rfl rfl rfl rfl ⟨rfl, rfl⟩ (fun A w hW => stateFitsS_c p s w ⟨hW.get 0 rfl (.refl _), hW.get 1 rfl (.refl _), trivial⟩ hp hs) ?_
  rintro v L ⟨b, rfl, hbb, rfl⟩
  refine CaseB.mk (fun g => ?_) (fun g => ?_)
  · have n : ¬ Fits p.pure s.pure := fun e => by rw [hbb.2 e] at g; cases g
    exact retw [] ⟨by rw [endM, if_pos n], rfl⟩ trivial rfl trivial (fun _ => rfl)
  have ft := hbb.1 (by simpa using g)
  refine CaseB.mk (fun g => ?_) (fun g => ?_)
  · have f0 : s.pure.fault ≠ 0 := by have g' : ¬ s.fault = 0 := by simpa using g
                                     exact g'
    exact retw [] ⟨by rw [endM, if_neg (not_not_intro ft), if_pos f0], rfl⟩ trivial rfl trivial (fun _ => rfl)
  have f0 : ¬ s.pure.fault ≠ 0 := by have g' : s.fault = 0 := by simpa using g
                                     exact not_not_intro g'
  refine stop_call _ cl28 rfl rfl rfl rfl ⟨rfl, rfl⟩ (fun A w hW => isOverS_c p s w ⟨hW.get 0 rfl (.refl _), hW.get 1 rfl (.refl _), trivial⟩ hp hs) ?_
  rintro v L ⟨b2, rfl, hb2, rfl⟩
  refine CaseB.mk (fun g => ?_) (fun g => ?_)
  · have o := (hb2.1 g).2.2
    exact retw [] ⟨by rw [endM, if_neg (not_not_intro ft), if_neg f0, if_pos o], rfl⟩ trivial rfl trivial (fun _ => rfl)
  have o : ¬ ∀ x ∈ s.pure.status, x = 3 := fun e => by rw [hb2.2 ⟨ft, Classical.not_not.1 f0, e⟩] at g; cases g
  refine stop_call _ cl109 rfl rfl rfl rfl ⟨rfl, rfl⟩ (fun A w hW => readyS_c s w ⟨hW.get 1 rfl (.refl _), trivial⟩ hb) ?_
  rintro v L ⟨y, rfl, rfl⟩
  refine CaseB.mk (fun g => ?_) (fun g => ?_)
  · have r : readyM s.pure = [] := List.eq_nil_of_length_eq_zero (have g' : ((readyM s.pure).length : Int) = 0 := (by simpa using g); by omega)
    exact retw [] ⟨by rw [endM, if_neg (not_not_intro ft), if_neg f0, if_neg o, if_pos r], rfl⟩ trivial rfl trivial (fun _ => rfl)
  have r : ¬ readyM s.pure = [] := fun e => by rw [e] at g; simp at g
  exact retw [] ⟨by rw [endM, if_neg (not_not_intro ft), if_neg f0, if_neg o, if_neg r], rfl⟩ trivial rfl trivial (fun _ => rfl)

end Go.Proofs.YtklclbcckjhdpaaGreat

namespace Go.Proofs.YtklclbcckjhdpaaGreat

open Go Go.Sx Go.RowKit

theorem ret_str {P : Program} {g : FuncId} {args : Array Value} {w : World} {x : ByteArray} (h : Calls P g args w (Ret w fun v L => v = .string x ∧ L = [])) : Calls P g args w (Ret w fun v L => ∃ a, a = x ∧ v = .string a ∧ L = []) :=
  h.mono fun _ _ ⟨v, L, h1, h2, h3, h4, h5⟩ => ⟨v, L, h1, h2, h3, x, rfl, h4, h5⟩

theorem neq_str {P : Program} {t : TypeId} {a b : ByteArray} (w : World) : (binOp .neq t (.string a) (.string b)).run P w = .ok (.bool (!(a.toList == b.toList))) w := by
  rw [binOp_string_neq]; rfl

set_option maxHeartbeats 16000000 in
set_option maxRecDepth 100000 in
theorem exactEndOf_c (p : ProgH) (s : StateH) (w : World) (h : At w [fR (progO p), fR (stateO s)]) :
    Calls Tryz.prog 8 #[progV p, stateV s] w (Ret w fun v L => v = .bool true ∧ L = []) := by
  refine calls2 Tryz.func8 rfl tabOk w _ rfl _ rfl _ h ⟨rfl, rfl, rfl, rfl, trivial⟩ _ _ (by decide) ?_
  refine stop_call _ cl12 rfl rfl rfl rfl ⟨rfl, rfl⟩ (fun A w hW => ret_abs (szProg_c p 1048576 w ⟨hW.get 0 rfl (.refl _), trivial⟩ (by omega) (by omega))) ?_
  rintro v L ⟨l0, e0, rfl, rfl⟩
  refine CaseB.mk (fun _ => ?_) (fun hz => ?_)
  · exact retw [] ⟨rfl, rfl⟩ trivial rfl trivial (fun _ => rfl)
  have hz0 : ¬ l0 < 0 := by simpa using hz
  obtain ⟨ha, hl⟩ := szProgM_gen p.pure 1048576 (by omega) (by rw [← e0]; exact hz0)
  rw [← e0] at hl
  refine stop_call _ cl13 rfl rfl rfl rfl ⟨rfl, rfl⟩ (fun A w hW => ret_abs (szState_c s l0 w ⟨hW.get 1 rfl (.refl _), trivial⟩ (by omega) hl)) ?_
  rintro v L ⟨l1, e1, rfl, rfl⟩
  refine CaseB.mk (fun _ => ?_) (fun hz => ?_)
  · exact retw [] ⟨rfl, rfl⟩ trivial rfl trivial (fun _ => rfl)
  have hz1 : ¬ l1 < 0 := by simpa using hz
  obtain ⟨hb, _⟩ := szStateM_gen s.pure l0 hl (by rw [← e1]; exact hz1)
  refine draw_start tabOk (by kernel_rfl) (by kernel_rfl) (by kernel_rfl) 200 [((0, 0), .v (p.h0.val p.sems.length)), ((0, 1), .v (p.h1.val p.groups.length)), ((0, 2), .v (p.h2.val p.barriers.length)), ((0, 3), .v (p.h3.val p.rooms.length)), ((0, 4), .v (p.h4.val p.threads.length)), ((1, 0), .v (s.h0.val s.places.length)), ((1, 1), .v (s.h1.val s.status.length)), ((1, 2), .v (s.h2.val s.sems.length)), ((1, 3), .v (s.h3.val s.onces.length)), ((1, 4), .v (s.h4.val s.groups.length)), ((1, 5), .v (s.h5.val s.barriers.length)), ((1, 6), .v (s.h6.val s.chans.length)), ((1, 7), .v (s.h7.val s.said.length)), ((1, 8), .v (.int .i64 s.fault))] [0, 1] [_, _] ⟨⟨_, rfl, rfl, (by first | exact trivial | exact Nat.le_of_ble_eq_true rfl)⟩, ⟨_, rfl, rfl, (by first | exact trivial | exact Nat.le_of_ble_eq_true rfl)⟩, ⟨_, rfl, rfl, (by first | exact trivial | exact Nat.le_of_ble_eq_true rfl)⟩, ⟨_, rfl, rfl, (by first | exact trivial | exact Nat.le_of_ble_eq_true rfl)⟩, ⟨_, rfl, rfl, (by first | exact trivial | exact Nat.le_of_ble_eq_true rfl)⟩, ⟨_, rfl, rfl, (by first | exact trivial | exact Nat.le_of_ble_eq_true rfl)⟩, ⟨_, rfl, rfl, (by first | exact trivial | exact Nat.le_of_ble_eq_true rfl)⟩, ⟨_, rfl, rfl, (by first | exact trivial | exact Nat.le_of_ble_eq_true rfl)⟩, ⟨_, rfl, rfl, (by first | exact trivial | exact Nat.le_of_ble_eq_true rfl)⟩, ⟨_, rfl, rfl, (by first | exact trivial | exact Nat.le_of_ble_eq_true rfl)⟩, ⟨_, rfl, rfl, (by first | exact trivial | exact Nat.le_of_ble_eq_true rfl)⟩, ⟨_, rfl, rfl, (by first | exact trivial | exact Nat.le_of_ble_eq_true rfl)⟩, ⟨_, rfl, rfl, (by first | exact trivial | exact Nat.le_of_ble_eq_true rfl)⟩, ⟨_, rfl, rfl, (by first | exact trivial | exact Nat.le_of_ble_eq_true rfl)⟩, trivial⟩ ⟨⟨_, rfl⟩, ⟨_, rfl⟩, ⟨_, rfl⟩, ⟨_, rfl⟩, ⟨_, rfl⟩, ⟨_, rfl⟩, ⟨_, rfl⟩, ⟨_, rfl⟩, ⟨_, rfl⟩, ⟨_, rfl⟩, ⟨_, rfl⟩, ⟨_, rfl⟩, ⟨_, rfl⟩, ⟨_, rfl⟩, trivial⟩ ⟨rfl, rfl, trivial⟩ rfl ?_
  refine d_call _ cl15 rfl rfl rfl rfl ⟨rfl, rfl⟩ (fun A w hW => toProg_c p w ⟨hW.get 0 rfl (.refl _), trivial⟩ ha) ?_
  rintro v L ⟨y0, rfl, p0, rfl⟩
  refine d_call _ cl16 rfl rfl rfl rfl ⟨rfl, rfl⟩ (fun A w hW => toState_c s w ⟨hW.get 2 rfl (.refl _), trivial⟩ hb) ?_
  rintro v L ⟨y1, rfl, p1, rfl⟩
  refine d_call _ cl32 rfl rfl rfl rfl ⟨rfl, rfl⟩ (fun A w hW => ret_str (endOfS_c y0 y1 w ⟨hW.get 1 rfl (.O_R fun _ h => h), hW.get 0 rfl (.O_R fun _ h => h), trivial⟩ (by rw [p0]; exact ha) (by rw [p1]; exact hb))) ?_
  rintro v L ⟨b1, hb1, rfl, rfl⟩
  rw [p0, p1] at hb1
  refine stop_call _ cl15 rfl rfl rfl rfl ⟨rfl, rfl⟩ (fun A w hW => toProg_c p w ⟨hW.get 2 rfl (.refl _), trivial⟩ ha) ?_
  rintro v L ⟨x0, rfl, q0, rfl⟩
  refine stop_call _ cl16 rfl rfl rfl rfl ⟨rfl, rfl⟩ (fun A w hW => toState_c s w ⟨hW.get 4 rfl (.refl _), trivial⟩ hb) ?_
  rintro v L ⟨x1, rfl, q1, rfl⟩
  refine stop_call _ cl33 rfl rfl rfl rfl ⟨rfl, rfl⟩ (fun A w hW => ret_str (endOf_c x0 x1 w ⟨hW.get 1 rfl (.O_R fun _ h => h), hW.get 0 rfl (.O_R fun _ h => h), trivial⟩ (by rw [q0]; exact ha) (by rw [q1]; exact hb))) ?_
  rintro v L ⟨b2, hb2, rfl, rfl⟩
  rw [q0, q1] at hb2
  have hbb : b2 = b1 := hb2.trans hb1.symm
  subst hbb
  refine stop_bin rfl rfl rfl ⟨rfl, rfl⟩ (.bool (!(b2.toList == b2.toList))) (fun w => (eqGuard_str w)) (fun w => (neq_str w)) ?_
  refine CaseB.mk (fun g => by simp at g) (fun _ => ?_)
  refine draw_start tabOk (by kernel_rfl) (by kernel_rfl) (by kernel_rfl) 200 [((0, 0), .v (p.h0.val p.sems.length)), ((0, 1), .v (p.h1.val p.groups.length)), ((0, 2), .v (p.h2.val p.barriers.length)), ((0, 3), .v (p.h3.val p.rooms.length)), ((0, 4), .v (p.h4.val p.threads.length)), ((2, 0), .v (x0.h0.val x0.sems.length)), ((2, 1), .v (x0.h1.val x0.groups.length)), ((2, 2), .v (x0.h2.val x0.barriers.length)), ((2, 3), .v (x0.h3.val x0.rooms.length)), ((2, 4), .v (x0.h4.val x0.threads.length))] [0, 1, 4, 5] [_, _, _, _] ⟨⟨_, rfl, rfl, (by first | exact trivial | exact Nat.le_of_ble_eq_true rfl)⟩, ⟨_, rfl, rfl, (by first | exact trivial | exact Nat.le_of_ble_eq_true rfl)⟩, ⟨_, rfl, rfl, (by first | exact trivial | exact Nat.le_of_ble_eq_true rfl)⟩, ⟨_, rfl, rfl, (by first | exact trivial | exact Nat.le_of_ble_eq_true rfl)⟩, ⟨_, rfl, rfl, (by first | exact trivial | exact Nat.le_of_ble_eq_true rfl)⟩, ⟨_, rfl, rfl, (by first | exact trivial | exact Nat.le_of_ble_eq_true rfl)⟩, ⟨_, rfl, rfl, (by first | exact trivial | exact Nat.le_of_ble_eq_true rfl)⟩, ⟨_, rfl, rfl, (by first | exact trivial | exact Nat.le_of_ble_eq_true rfl)⟩, ⟨_, rfl, rfl, (by first | exact trivial | exact Nat.le_of_ble_eq_true rfl)⟩, ⟨_, rfl, rfl, (by first | exact trivial | exact Nat.le_of_ble_eq_true rfl)⟩, trivial⟩ ⟨⟨_, rfl⟩, ⟨_, rfl⟩, ⟨_, rfl⟩, ⟨_, rfl⟩, ⟨_, rfl⟩, ⟨_, rfl⟩, ⟨_, rfl⟩, ⟨_, rfl⟩, ⟨_, rfl⟩, ⟨_, rfl⟩, trivial⟩ ⟨rfl, rfl, rfl, rfl, trivial⟩ rfl ?_
  refine d_call _ cl15 rfl rfl rfl rfl ⟨rfl, rfl⟩ (fun A w hW => toProg_c p w ⟨hW.get 4 rfl (.refl _), trivial⟩ ha) ?_
  rintro v L ⟨z0, rfl, r0, rfl⟩
  refine d_call _ cl19 rfl rfl rfl rfl ⟨rfl, rfl⟩ (fun A w hW => eqProg_c x0 z0 w ⟨hW.get 2 rfl (.O_R fun _ h => h), hW.get 0 rfl (.O_R fun _ h => h), trivial⟩ (by rw [q0]; exact ha) (by rw [r0]; exact ha)) ?_
  rintro v L ⟨rfl, rfl⟩
  refine CaseB.mk (fun g => by simp [q0, r0] at g) (fun _ => ?_)
  refine draw_start tabOk (by kernel_rfl) (by kernel_rfl) (by kernel_rfl) 200 [((1, 0), .v (s.h0.val s.places.length)), ((1, 1), .v (s.h1.val s.status.length)), ((1, 2), .v (s.h2.val s.sems.length)), ((1, 3), .v (s.h3.val s.onces.length)), ((1, 4), .v (s.h4.val s.groups.length)), ((1, 5), .v (s.h5.val s.barriers.length)), ((1, 6), .v (s.h6.val s.chans.length)), ((1, 7), .v (s.h7.val s.said.length)), ((1, 8), .v (.int .i64 s.fault)), ((3, 0), .v (x1.h0.val x1.places.length)), ((3, 1), .v (x1.h1.val x1.status.length)), ((3, 2), .v (x1.h2.val x1.sems.length)), ((3, 3), .v (x1.h3.val x1.onces.length)), ((3, 4), .v (x1.h4.val x1.groups.length)), ((3, 5), .v (x1.h5.val x1.barriers.length)), ((3, 6), .v (x1.h6.val x1.chans.length)), ((3, 7), .v (x1.h7.val x1.said.length)), ((3, 8), .v (.int .i64 x1.fault))] [1, 6] [_, _] ⟨⟨_, rfl, rfl, (by first | exact trivial | exact Nat.le_of_ble_eq_true rfl)⟩, ⟨_, rfl, rfl, (by first | exact trivial | exact Nat.le_of_ble_eq_true rfl)⟩, ⟨_, rfl, rfl, (by first | exact trivial | exact Nat.le_of_ble_eq_true rfl)⟩, ⟨_, rfl, rfl, (by first | exact trivial | exact Nat.le_of_ble_eq_true rfl)⟩, ⟨_, rfl, rfl, (by first | exact trivial | exact Nat.le_of_ble_eq_true rfl)⟩, ⟨_, rfl, rfl, (by first | exact trivial | exact Nat.le_of_ble_eq_true rfl)⟩, ⟨_, rfl, rfl, (by first | exact trivial | exact Nat.le_of_ble_eq_true rfl)⟩, ⟨_, rfl, rfl, (by first | exact trivial | exact Nat.le_of_ble_eq_true rfl)⟩, ⟨_, rfl, rfl, (by first | exact trivial | exact Nat.le_of_ble_eq_true rfl)⟩, ⟨_, rfl, rfl, (by first | exact trivial | exact Nat.le_of_ble_eq_true rfl)⟩, ⟨_, rfl, rfl, (by first | exact trivial | exact Nat.le_of_ble_eq_true rfl)⟩, ⟨_, rfl, rfl, (by first | exact trivial | exact Nat.le_of_ble_eq_true rfl)⟩, ⟨_, rfl, rfl, (by first | exact trivial | exact Nat.le_of_ble_eq_true rfl)⟩, ⟨_, rfl, rfl, (by first | exact trivial | exact Nat.le_of_ble_eq_true rfl)⟩, ⟨_, rfl, rfl, (by first | exact trivial | exact Nat.le_of_ble_eq_true rfl)⟩, ⟨_, rfl, rfl, (by first | exact trivial | exact Nat.le_of_ble_eq_true rfl)⟩, ⟨_, rfl, rfl, (by first | exact trivial | exact Nat.le_of_ble_eq_true rfl)⟩, ⟨_, rfl, rfl, (by first | exact trivial | exact Nat.le_of_ble_eq_true rfl)⟩, trivial⟩ ⟨⟨_, rfl⟩, ⟨_, rfl⟩, ⟨_, rfl⟩, ⟨_, rfl⟩, ⟨_, rfl⟩, ⟨_, rfl⟩, ⟨_, rfl⟩, ⟨_, rfl⟩, ⟨_, rfl⟩, ⟨_, rfl⟩, ⟨_, rfl⟩, ⟨_, rfl⟩, ⟨_, rfl⟩, ⟨_, rfl⟩, ⟨_, rfl⟩, ⟨_, rfl⟩, ⟨_, rfl⟩, ⟨_, rfl⟩, trivial⟩ ⟨rfl, rfl, trivial⟩ rfl ?_
  refine d_call _ cl16 rfl rfl rfl rfl ⟨rfl, rfl⟩ (fun A w hW => toState_c s w ⟨hW.get 6 rfl (.refl _), trivial⟩ hb) ?_
  rintro v L ⟨z1, rfl, r1, rfl⟩
  refine d_call _ cl18 rfl rfl rfl rfl ⟨rfl, rfl⟩ (fun A w hW => eqState_c x1 z1 w ⟨hW.get 2 rfl (.O_R fun _ h => h), hW.get 0 rfl (.O_R fun _ h => h), trivial⟩ (by rw [q1]; exact hb) (by rw [r1]; exact hb)) ?_
  rintro v L ⟨rfl, rfl⟩
  refine CaseB.mk (fun g => by simp [q1, r1] at g) (fun _ => ?_)
  exact retw [] ⟨rfl, rfl⟩ trivial rfl trivial (fun _ => rfl)

end Go.Proofs.YtklclbcckjhdpaaGreat

namespace Go.Proofs.YtklclbcckjhdpaaGreat

open Go Go.Sx Go.RowKit Go.ChangeShapes Go.WideShapes

theorem undI : Tryz.prog.underlying 3 = some (.int .i64) := by kernel_rfl

theorem undIs : Tryz.prog.underlying 22 = some (.slice 3) := by kernel_rfl

theorem el_int {H : Type} {enc : TypeId × Value → H} {W : World} : ∀ (n : Nat) (cs : List Value) (y : DataW H × List MemPlace), DataW.trod enc Tryz.prog W 0 (fun _ => true) true n 3 cs = some y → ∃ a : Int, cs = cInt a := fun n cs y hy => by
  obtain ⟨k, h1, _, _⟩ := DataW.trod_int undI hy
  exact ⟨k, h1⟩

theorem structWaiter : Tryz.prog.underlying 242 = some (.struct (Tryz.prog.fieldsOf 242)) := by kernel_rfl

theorem fieldsWaiter : (Tryz.prog.fieldsOf 242).toList.map (fun f => (f.type, f.offset, Tryz.prog.cellsOf f.type)) = [(3, 0, 1), (3, 1, 1)] := by kernel_rfl

theorem undWaiterS : Tryz.prog.underlying 163 = some (.slice 242) := by kernel_rfl

set_option maxRecDepth 100000 in
theorem el_Waiter {H : Type} {enc : TypeId × Value → H} {W : World} : ∀ (n : Nat) (cs : List Value) (y : DataW H × List MemPlace), DataW.trod enc Tryz.prog W 0 (fun _ => true) true n 242 cs = some y → ∃ a : Waiter, cs = cWaiter a := fun n cs y hy => by
  obtain ⟨hl, k, hx⟩ := trod_fields structWaiter fieldsWaiter (sz := 2) (by kernel_rfl) hy
  match cs, hl with
  | [a0, a1], _ =>
    obtain ⟨_, h0⟩ := hx 0 _ _ _ rfl
    obtain ⟨p0, e0⟩ := el_int _ _ _ h0
    obtain ⟨_, h1⟩ := hx 1 _ _ _ rfl
    obtain ⟨p1, e1⟩ := el_int _ _ _ h1
    simp [cInt] at e0 e1
    exact ⟨⟨p0, p1⟩, by simp [cWaiter, e0, e1]⟩

theorem structLetter : Tryz.prog.underlying 244 = some (.struct (Tryz.prog.fieldsOf 244)) := by kernel_rfl

theorem fieldsLetter : (Tryz.prog.fieldsOf 244).toList.map (fun f => (f.type, f.offset, Tryz.prog.cellsOf f.type)) = [(3, 0, 1), (3, 1, 1)] := by kernel_rfl

theorem undLetterS : Tryz.prog.underlying 173 = some (.slice 244) := by kernel_rfl

set_option maxRecDepth 100000 in
theorem el_Letter {H : Type} {enc : TypeId × Value → H} {W : World} : ∀ (n : Nat) (cs : List Value) (y : DataW H × List MemPlace), DataW.trod enc Tryz.prog W 0 (fun _ => true) true n 244 cs = some y → ∃ a : Letter, cs = cLet a := fun n cs y hy => by
  obtain ⟨hl, k, hx⟩ := trod_fields structLetter fieldsLetter (sz := 2) (by kernel_rfl) hy
  match cs, hl with
  | [a0, a1], _ =>
    obtain ⟨_, h0⟩ := hx 0 _ _ _ rfl
    obtain ⟨p0, e0⟩ := el_int _ _ _ h0
    obtain ⟨_, h1⟩ := hx 1 _ _ _ rfl
    obtain ⟨p1, e1⟩ := el_int _ _ _ h1
    simp [cInt] at e0 e1
    exact ⟨⟨p0, p1⟩, by simp [cLet, e0, e1]⟩

theorem structOp : Tryz.prog.underlying 228 = some (.struct (Tryz.prog.fieldsOf 228)) := by kernel_rfl

theorem fieldsOp : (Tryz.prog.fieldsOf 228).toList.map (fun f => (f.type, f.offset, Tryz.prog.cellsOf f.type)) = [(3, 0, 1), (3, 1, 1), (3, 2, 1)] := by kernel_rfl

theorem undOpS : Tryz.prog.underlying 161 = some (.slice 228) := by kernel_rfl

set_option maxRecDepth 100000 in
theorem el_Op {H : Type} {enc : TypeId × Value → H} {W : World} : ∀ (n : Nat) (cs : List Value) (y : DataW H × List MemPlace), DataW.trod enc Tryz.prog W 0 (fun _ => true) true n 228 cs = some y → ∃ a : Op, cs = cOp a := fun n cs y hy => by
  obtain ⟨hl, k, hx⟩ := trod_fields structOp fieldsOp (sz := 3) (by kernel_rfl) hy
  match cs, hl with
  | [a0, a1, a2], _ =>
    obtain ⟨_, h0⟩ := hx 0 _ _ _ rfl
    obtain ⟨p0, e0⟩ := el_int _ _ _ h0
    obtain ⟨_, h1⟩ := hx 1 _ _ _ rfl
    obtain ⟨p1, e1⟩ := el_int _ _ _ h1
    obtain ⟨_, h2⟩ := hx 2 _ _ _ rfl
    obtain ⟨p2, e2⟩ := el_int _ _ _ h2
    simp [cInt] at e0 e1 e2
    exact ⟨⟨p0, p1, p2⟩, by simp [cOp, e0, e1, e2]⟩

theorem undOpSS : Tryz.prog.underlying 23 = some (.slice 161) := by kernel_rfl

theorem el_OpS {H : Type} {enc : TypeId × Value → H} {W : World} : ∀ (n : Nat) (cs : List Value) (y : DataW H × List MemPlace), DataW.trod enc Tryz.prog W 0 (fun _ => true) true n 161 cs = some y → ∃ a : OpSH, cs = cOpSH a ∧ AllR W (opSO a) := fun n cs y hy => by
  obtain ⟨i, xs, e, r, f⟩ := open_sl encOp (by decide) undOpS (by kernel_rfl) el_Op hy
  exact ⟨⟨xs, i⟩, e, AllR.cons ⟨r, f⟩ (AllR.nil W)⟩

theorem structSem : Tryz.prog.underlying 165 = some (.struct (Tryz.prog.fieldsOf 165)) := by kernel_rfl

theorem fieldsSem : (Tryz.prog.fieldsOf 165).toList.map (fun f => (f.type, f.offset, Tryz.prog.cellsOf f.type)) = [(3, 0, 1), (3, 1, 1), (163, 2, 1)] := by kernel_rfl

theorem undSemS : Tryz.prog.underlying 26 = some (.slice 165) := by kernel_rfl

set_option maxRecDepth 100000 in
theorem el_Sem {H : Type} {enc : TypeId × Value → H} {W : World} : ∀ (n : Nat) (cs : List Value) (y : DataW H × List MemPlace), DataW.trod enc Tryz.prog W 0 (fun _ => true) true n 165 cs = some y → ∃ a : SemH, cs = cSemH a ∧ AllR W (semO a) := fun n cs y hy => by
  obtain ⟨hl, k, hx⟩ := trod_fields structSem fieldsSem (sz := 3) (by kernel_rfl) hy
  match cs, hl with
  | [a0, a1, a2], _ =>
    obtain ⟨_, h0⟩ := hx 0 _ _ _ rfl
    obtain ⟨p0, e0⟩ := el_int _ _ _ h0
    obtain ⟨_, h1⟩ := hx 1 _ _ _ rfl
    obtain ⟨p1, e1⟩ := el_int _ _ _ h1
    obtain ⟨_, h2⟩ := hx 2 _ _ _ rfl
    obtain ⟨i2, p2, e2, r2, f2⟩ := open_sl encWaiter (by decide) undWaiterS (by kernel_rfl) el_Waiter h2
    simp [cInt] at e0 e1 e2
    exact ⟨⟨⟨p0, p1, p2⟩, i2⟩, by simp [cSemH, e0, e1, e2], AllR.cons ⟨r2, f2⟩ (AllR.nil W)⟩

theorem structOnce : Tryz.prog.underlying 167 = some (.struct (Tryz.prog.fieldsOf 167)) := by kernel_rfl

theorem fieldsOnce : (Tryz.prog.fieldsOf 167).toList.map (fun f => (f.type, f.offset, Tryz.prog.cellsOf f.type)) = [(3, 0, 1), (3, 1, 1), (3, 2, 1), (22, 3, 1)] := by kernel_rfl

theorem undOnceS : Tryz.prog.underlying 27 = some (.slice 167) := by kernel_rfl

set_option maxRecDepth 100000 in
theorem el_Once {H : Type} {enc : TypeId × Value → H} {W : World} : ∀ (n : Nat) (cs : List Value) (y : DataW H × List MemPlace), DataW.trod enc Tryz.prog W 0 (fun _ => true) true n 167 cs = some y → ∃ a : OnceH, cs = cOnceH a ∧ AllR W (onceO a) := fun n cs y hy => by
  obtain ⟨hl, k, hx⟩ := trod_fields structOnce fieldsOnce (sz := 4) (by kernel_rfl) hy
  match cs, hl with
  | [a0, a1, a2, a3], _ =>
    obtain ⟨_, h0⟩ := hx 0 _ _ _ rfl
    obtain ⟨p0, e0⟩ := el_int _ _ _ h0
    obtain ⟨_, h1⟩ := hx 1 _ _ _ rfl
    obtain ⟨p1, e1⟩ := el_int _ _ _ h1
    obtain ⟨_, h2⟩ := hx 2 _ _ _ rfl
    obtain ⟨p2, e2⟩ := el_int _ _ _ h2
    obtain ⟨_, h3⟩ := hx 3 _ _ _ rfl
    obtain ⟨i3, p3, e3, r3, f3⟩ := open_sl encInt Nat.zero_lt_one undIs (by kernel_rfl) el_int h3
    simp [cInt] at e0 e1 e2 e3
    exact ⟨⟨⟨p0, p1, p2, p3⟩, i3⟩, by simp [cOnceH, e0, e1, e2, e3], AllR.cons ⟨r3, f3⟩ (AllR.nil W)⟩

theorem structGroup : Tryz.prog.underlying 169 = some (.struct (Tryz.prog.fieldsOf 169)) := by kernel_rfl

theorem fieldsGroup : (Tryz.prog.fieldsOf 169).toList.map (fun f => (f.type, f.offset, Tryz.prog.cellsOf f.type)) = [(3, 0, 1), (22, 1, 1)] := by kernel_rfl

theorem undGroupS : Tryz.prog.underlying 28 = some (.slice 169) := by kernel_rfl

set_option maxRecDepth 100000 in
theorem el_Group {H : Type} {enc : TypeId × Value → H} {W : World} : ∀ (n : Nat) (cs : List Value) (y : DataW H × List MemPlace), DataW.trod enc Tryz.prog W 0 (fun _ => true) true n 169 cs = some y → ∃ a : GroupH, cs = cGroupH a ∧ AllR W (groupO a) := fun n cs y hy => by
  obtain ⟨hl, k, hx⟩ := trod_fields structGroup fieldsGroup (sz := 2) (by kernel_rfl) hy
  match cs, hl with
  | [a0, a1], _ =>
    obtain ⟨_, h0⟩ := hx 0 _ _ _ rfl
    obtain ⟨p0, e0⟩ := el_int _ _ _ h0
    obtain ⟨_, h1⟩ := hx 1 _ _ _ rfl
    obtain ⟨i1, p1, e1, r1, f1⟩ := open_sl encInt Nat.zero_lt_one undIs (by kernel_rfl) el_int h1
    simp [cInt] at e0 e1
    exact ⟨⟨⟨p0, p1⟩, i1⟩, by simp [cGroupH, e0, e1], AllR.cons ⟨r1, f1⟩ (AllR.nil W)⟩

theorem structBarrier : Tryz.prog.underlying 171 = some (.struct (Tryz.prog.fieldsOf 171)) := by kernel_rfl

theorem fieldsBarrier : (Tryz.prog.fieldsOf 171).toList.map (fun f => (f.type, f.offset, Tryz.prog.cellsOf f.type)) = [(3, 0, 1), (3, 1, 1), (22, 2, 1)] := by kernel_rfl

theorem undBarrierS : Tryz.prog.underlying 29 = some (.slice 171) := by kernel_rfl

set_option maxRecDepth 100000 in
theorem el_Barrier {H : Type} {enc : TypeId × Value → H} {W : World} : ∀ (n : Nat) (cs : List Value) (y : DataW H × List MemPlace), DataW.trod enc Tryz.prog W 0 (fun _ => true) true n 171 cs = some y → ∃ a : BarrierH, cs = cBarrierH a ∧ AllR W (barrierO a) := fun n cs y hy => by
  obtain ⟨hl, k, hx⟩ := trod_fields structBarrier fieldsBarrier (sz := 3) (by kernel_rfl) hy
  match cs, hl with
  | [a0, a1, a2], _ =>
    obtain ⟨_, h0⟩ := hx 0 _ _ _ rfl
    obtain ⟨p0, e0⟩ := el_int _ _ _ h0
    obtain ⟨_, h1⟩ := hx 1 _ _ _ rfl
    obtain ⟨p1, e1⟩ := el_int _ _ _ h1
    obtain ⟨_, h2⟩ := hx 2 _ _ _ rfl
    obtain ⟨i2, p2, e2, r2, f2⟩ := open_sl encInt Nat.zero_lt_one undIs (by kernel_rfl) el_int h2
    simp [cInt] at e0 e1 e2
    exact ⟨⟨⟨p0, p1, p2⟩, i2⟩, by simp [cBarrierH, e0, e1, e2], AllR.cons ⟨r2, f2⟩ (AllR.nil W)⟩

theorem structChan : Tryz.prog.underlying 175 = some (.struct (Tryz.prog.fieldsOf 175)) := by kernel_rfl

theorem fieldsChan : (Tryz.prog.fieldsOf 175).toList.map (fun f => (f.type, f.offset, Tryz.prog.cellsOf f.type)) = [(3, 0, 1), (22, 1, 1), (173, 2, 1), (22, 3, 1), (4, 4, 1)] := by kernel_rfl

theorem undChanS : Tryz.prog.underlying 30 = some (.slice 175) := by kernel_rfl

set_option maxRecDepth 100000 in
theorem el_Chan {H : Type} {enc : TypeId × Value → H} {W : World} : ∀ (n : Nat) (cs : List Value) (y : DataW H × List MemPlace), DataW.trod enc Tryz.prog W 0 (fun _ => true) true n 175 cs = some y → ∃ a : ChanH, cs = cChanH a ∧ AllR W (chanO a) := fun n cs y hy => by
  obtain ⟨hl, k, hx⟩ := trod_fields structChan fieldsChan (sz := 5) (by kernel_rfl) hy
  match cs, hl with
  | [a0, a1, a2, a3, a4], _ =>
    obtain ⟨_, h0⟩ := hx 0 _ _ _ rfl
    obtain ⟨p0, e0⟩ := el_int _ _ _ h0
    obtain ⟨_, h1⟩ := hx 1 _ _ _ rfl
    obtain ⟨i1, p1, e1, r1, f1⟩ := open_sl encInt Nat.zero_lt_one undIs (by kernel_rfl) el_int h1
    obtain ⟨_, h2⟩ := hx 2 _ _ _ rfl
    obtain ⟨i2, p2, e2, r2, f2⟩ := open_sl encLet (by decide) undLetterS (by kernel_rfl) el_Letter h2
    obtain ⟨_, h3⟩ := hx 3 _ _ _ rfl
    obtain ⟨i3, p3, e3, r3, f3⟩ := open_sl encInt Nat.zero_lt_one undIs (by kernel_rfl) el_int h3
    obtain ⟨_, h4⟩ := hx 4 _ _ _ rfl
    obtain ⟨p4, e4, _⟩ := DataW.trod_bool undBool h4
    simp [cInt] at e0 e1 e2 e3 e4
    exact ⟨⟨⟨p0, p1, p2, p3, p4⟩, i1, i2, i3⟩, by simp [cChanH, e0, e1, e2, e3, e4], AllR.cons ⟨r1, f1⟩ (AllR.cons ⟨r2, f2⟩ (AllR.cons ⟨r3, f3⟩ (AllR.nil W)))⟩

theorem structProg : Tryz.prog.underlying 25 = some (.struct (Tryz.prog.fieldsOf 25)) := by kernel_rfl

theorem fieldsProg : (Tryz.prog.fieldsOf 25).toList.map (fun f => (f.type, f.offset, Tryz.prog.cellsOf f.type)) = [(22, 0, 1), (22, 1, 1), (22, 2, 1), (22, 3, 1), (23, 4, 1)] := by kernel_rfl

set_option maxRecDepth 100000 in
theorem open_Prog {H : Type} {enc : TypeId × Value → H} {W : World} {base : Nat} {v : Value} {d : DataW H} {p : List MemPlace} (hv : Value.okWide Tryz.prog W .any base 25 v) (h : DataW.Trod enc Tryz.prog W 0 (fun _ => true) true 25 v d p) :
    ∃ s : ProgH, v = progV s ∧ (fR (progO s)).P W ∧ ∀ b, (fR (progO s)).foot b → b < W.heap.size := by
  obtain ⟨vs, rfl, _⟩ := okWide_struct structProg hv
  obtain ⟨fuel, hf⟩ := h
  obtain ⟨hl, k, hx⟩ := trod_fields structProg fieldsProg (sz := 5) (by kernel_rfl) hf
  obtain ⟨cs⟩ := vs
  have hl : cs.length = 5 := hl
  match cs, hl with
  | [a0, a1, a2, a3, a4], _ =>
    obtain ⟨_, h0⟩ := hx 0 _ _ _ rfl
    obtain ⟨i0, p0, e0, r0, f0⟩ := open_sl encInt Nat.zero_lt_one undIs (by kernel_rfl) el_int h0
    obtain ⟨_, h1⟩ := hx 1 _ _ _ rfl
    obtain ⟨i1, p1, e1, r1, f1⟩ := open_sl encInt Nat.zero_lt_one undIs (by kernel_rfl) el_int h1
    obtain ⟨_, h2⟩ := hx 2 _ _ _ rfl
    obtain ⟨i2, p2, e2, r2, f2⟩ := open_sl encInt Nat.zero_lt_one undIs (by kernel_rfl) el_int h2
    obtain ⟨_, h3⟩ := hx 3 _ _ _ rfl
    obtain ⟨i3, p3, e3, r3, f3⟩ := open_sl encInt Nat.zero_lt_one undIs (by kernel_rfl) el_int h3
    obtain ⟨_, h4⟩ := hx 4 _ _ _ rfl
    obtain ⟨i4, p4, e4, r4, f4, q4⟩ := open_slQ encOpSH (by decide) undOpSS (by kernel_rfl) el_OpS h4
    simp [Value.cells] at e0 e1 e2 e3 e4
    refine ⟨⟨p0, p1, p2, p3, p4, i0, i1, i2, i3, i4⟩, ?_, AllR.at ?_⟩
    · simp [progV, e0, e1, e2, e3, e4]
    · exact AllR.cons ⟨r0, f0⟩ (AllR.cons ⟨r1, f1⟩ (AllR.cons ⟨r2, f2⟩ (AllR.cons ⟨r3, f3⟩ ((AllR.cons ⟨r4, f4⟩ (AllR.flat q4))))))

theorem structState : Tryz.prog.underlying 32 = some (.struct (Tryz.prog.fieldsOf 32)) := by kernel_rfl

theorem fieldsState : (Tryz.prog.fieldsOf 32).toList.map (fun f => (f.type, f.offset, Tryz.prog.cellsOf f.type)) = [(22, 0, 1), (22, 1, 1), (26, 2, 1), (27, 3, 1), (28, 4, 1), (29, 5, 1), (30, 6, 1), (22, 7, 1), (3, 8, 1)] := by kernel_rfl

set_option maxRecDepth 100000 in
theorem open_State {H : Type} {enc : TypeId × Value → H} {W : World} {base : Nat} {v : Value} {d : DataW H} {p : List MemPlace} (hv : Value.okWide Tryz.prog W .any base 32 v) (h : DataW.Trod enc Tryz.prog W 0 (fun _ => true) true 32 v d p) :
    ∃ s : StateH, v = stateV s ∧ (fR (stateO s)).P W ∧ ∀ b, (fR (stateO s)).foot b → b < W.heap.size := by
  obtain ⟨vs, rfl, _⟩ := okWide_struct structState hv
  obtain ⟨fuel, hf⟩ := h
  obtain ⟨hl, k, hx⟩ := trod_fields structState fieldsState (sz := 9) (by kernel_rfl) hf
  obtain ⟨cs⟩ := vs
  have hl : cs.length = 9 := hl
  match cs, hl with
  | [a0, a1, a2, a3, a4, a5, a6, a7, a8], _ =>
    obtain ⟨_, h0⟩ := hx 0 _ _ _ rfl
    obtain ⟨i0, p0, e0, r0, f0⟩ := open_sl encInt Nat.zero_lt_one undIs (by kernel_rfl) el_int h0
    obtain ⟨_, h1⟩ := hx 1 _ _ _ rfl
    obtain ⟨i1, p1, e1, r1, f1⟩ := open_sl encInt Nat.zero_lt_one undIs (by kernel_rfl) el_int h1
    obtain ⟨_, h2⟩ := hx 2 _ _ _ rfl
    obtain ⟨i2, p2, e2, r2, f2, q2⟩ := open_slQ encSemH (by decide) undSemS (by kernel_rfl) el_Sem h2
    obtain ⟨_, h3⟩ := hx 3 _ _ _ rfl
    obtain ⟨i3, p3, e3, r3, f3, q3⟩ := open_slQ encOnceH (by decide) undOnceS (by kernel_rfl) el_Once h3
    obtain ⟨_, h4⟩ := hx 4 _ _ _ rfl
    obtain ⟨i4, p4, e4, r4, f4, q4⟩ := open_slQ encGroupH (by decide) undGroupS (by kernel_rfl) el_Group h4
    obtain ⟨_, h5⟩ := hx 5 _ _ _ rfl
    obtain ⟨i5, p5, e5, r5, f5, q5⟩ := open_slQ encBarrierH (by decide) undBarrierS (by kernel_rfl) el_Barrier h5
    obtain ⟨_, h6⟩ := hx 6 _ _ _ rfl
    obtain ⟨i6, p6, e6, r6, f6, q6⟩ := open_slQ encChanH (by decide) undChanS (by kernel_rfl) el_Chan h6
    obtain ⟨_, h7⟩ := hx 7 _ _ _ rfl
    obtain ⟨i7, p7, e7, r7, f7⟩ := open_sl encInt Nat.zero_lt_one undIs (by kernel_rfl) el_int h7
    obtain ⟨_, h8⟩ := hx 8 _ _ _ rfl
    obtain ⟨p8, e8⟩ := el_int _ _ _ h8
    simp [cInt, Value.cells] at e0 e1 e2 e3 e4 e5 e6 e7 e8
    refine ⟨⟨p0, p1, p2, p3, p4, p5, p6, p7, p8, i0, i1, i2, i3, i4, i5, i6, i7⟩, ?_, AllR.at ?_⟩
    · simp [stateV, e0, e1, e2, e3, e4, e5, e6, e7, e8]
    · exact AllR.cons ⟨r0, f0⟩ (AllR.cons ⟨r1, f1⟩ ((AllR.append (AllR.cons ⟨r2, f2⟩ (AllR.flat q2)) (AllR.append (AllR.cons ⟨r3, f3⟩ (AllR.flat q3)) (AllR.append (AllR.cons ⟨r4, f4⟩ (AllR.flat q4)) (AllR.append (AllR.cons ⟨r5, f5⟩ (AllR.flat q5)) (AllR.append (AllR.cons ⟨r6, f6⟩ (AllR.flat q6)) (AllR.cons ⟨r7, f7⟩ (AllR.nil W)))))))))

set_option maxRecDepth 100000 in
theorem lifted_PS {f : FuncId} {fn : Func} {s : ChangeSpec} {conds : List PathCond} (hf : Tryz.checked.prog.funcs[f]? = some fn) (hfn : Tryz.checked.prog.inits.idxOf? f = none) (hpl : fn.params = #[25, 32]) (hres : fn.resultTypes = #[4]) (hvars : s.vars = [])
    (hspec : ∀ (H : Type) (d0 d1 : DataW H), s.fn H [d0, d1] = { results := [.lit (.bool true)], args := [d0, d1] })
    (hc : ∀ (x0 : ProgH) (x1 : StateH) (w : World), At w [fR (progO x0), fR (stateO x1)] → Calls Tryz.prog f #[progV x0, stateV x1] w (Ret w fun v L => v = .bool true ∧ L = []))
    (os : Os) (started : os.Started) (H : Type) (enc : TypeId × Value → H)
    (wit : ∃ (w : World) (tape : Tape) (i : Input), w.os = os ∧ (w.forCall tape i).Shaped Tryz.checked.prog ∧ i.vars = [] ∧ Input.okWide Tryz.checked.prog (w.forCall tape i) .any w.heap.size f i ∧
      s.pre6 enc Tryz.checked.prog fn conds false (w.forCall tape i).memory i.args ∧ ({} : Assume).holds Tryz.checked.prog (lone (Frame.enter Tryz.checked.prog f i.args .normal) [] (w.forCall tape i))) :
    ReturnsInHanded {} Tryz.checked os f .any (s.pre6 enc Tryz.checked.prog fn conds false) (s.post enc Tryz.checked.prog fn false true false false) := by
  refine returnsInHanded_of_change (C := Tryz.checked) ownNone started hfn hf wit ?_
  intro W base args ds gs before hval hW _ _
  have hW' := hW
  obtain ⟨p, q, hA0, hV, _, _, _⟩ := hW
  rw [hpl] at hA0
  have hA : DataW.TrodAll enc Tryz.prog W 0 (fun _ => true) true [25, 32] args.toList ds p := hA0
  obtain ⟨v0, vs0, d0, ds0, p0, q0, e0, rfl, _, h0, hA⟩ := trodAll_cons hA
  obtain ⟨v1, vs1, d1, ds1, p1, q1, rfl, rfl, _, h1, hA⟩ := trodAll_cons hA
  obtain ⟨rfl, rfl, _⟩ := trodAll_nil hA
  obtain rfl : args = #[v0, v1] := by apply Array.ext'; simpa using e0
  obtain ⟨x0, rfl, hat0⟩ := open_Prog (hval 0 25 v0 (by rw [hpl]; rfl) rfl) h0
  obtain ⟨x1, rfl, hat1⟩ := open_State (hval 1 32 v1 (by rw [hpl]; rfl) rfl) h1
  refine (hc x0 x1 W ⟨hat0, hat1, trivial⟩).mono fun e W' hR => ?_
  obtain ⟨v, L, rfl, he, _, rfl, _⟩ := hR
  rw [hvars] at hV
  obtain ⟨rfl, _⟩ := trodVars_none hV
  exact ⟨_, rfl, law_post (P := Tryz.prog) laidOut (pl := [25, 32]) (by rw [hpl]) (by kernel_rfl) hvars hres undBool (hspec H d0 d1) hW' he.below⟩

end Go.Proofs.YtklclbcckjhdpaaGreat

namespace Go.Proofs.YtklclbcckjhdpaaGreat

open Go Go.Sx Go.RowKit Go.ChangeShapes Go.WideShapes

set_option maxRecDepth 100000 in
theorem fnExactEndOf_lifted (os : Os) (started : os.Started) (H : Type) (enc : TypeId × Value → H) :
    ReturnsInHanded {} Tryz.checked os 8 .any (Rows.fnExactEndOfSpec.pre6 enc Tryz.checked.prog Tryz.f8 Rows.fnExactEndOfRow.domain false) (Rows.fnExactEndOfSpec.post enc Tryz.checked.prog Tryz.f8 false true false false) :=
  lifted_PS Tryz.func8 (by kernel_rfl) rfl rfl rfl (fun _ _ _ => rfl) exactEndOf_c os started H enc
    (ChangeSpec.witness6 (enc := enc) (C := Tryz.checked) false ⟨#[], #[.agg #[.slice none 0 0, .slice none 0 0, .slice none 0 0, .slice none 0 0, .slice none 0 0], .agg #[.slice none 0 0, .slice none 0 0, .slice none 0 0, .slice none 0 0, .slice none 0 0, .slice none 0 0, .slice none 0 0, .slice none 0 0, .int .i64 0]], []⟩ 8 (by kernel_rfl) (by kernel_rfl) (by kernel_rfl) (by kernel_rfl))

theorem fnExactEndOf_holds : Rows.FnExactEndOfSaid :=
  OpenClaim.holds_of_wide 8 Tryz.f8 rfl rfl rfl rfl rfl rfl rfl ⟨rfl, rfl, rfl, rfl, rfl⟩ rfl rfl rfl rfl rfl (by kernel_rfl) Tryz.func8 (by kernel_rfl)
    (of_decide_eq_true (by kernel_rfl)) (by unfold Func.isWrapper; first | (rw [if_pos (by decide +kernel)]; kernel_rfl) | (rw [if_neg (by decide +kernel)]; exact ⟨rfl, rfl⟩))
    (fun os started H enc _ => fnExactEndOf_lifted os started H enc)

end Go.Proofs.YtklclbcckjhdpaaGreat
