/- Channels: the plain model, and the contracts of the small functions. -/
import Derived.Test.YtpopeaoklccgcaaSxz
import Derived.Test.YtpopeaoklccgcaaSxl
namespace Go.Proofs.Ytpopeaoklccgcaa

open Go Go.Sx Go.RowKit

def isThread (t : Int) : Bool := decide (0 ≤ t) && decide (t < 6)

def isValue (t : Int) : Bool := decide (0 ≤ t) && decide (t ≤ 99)

structure Letter where
  t : Int
  v : Int
  deriving DecidableEq

def cLet (l : Letter) : List Value := [.int .i64 l.t, .int .i64 l.v]

theorem encLet : Enc cLet 2 := ⟨fun _ => rfl, fun _ u hu => by simp [cLet] at hu; rcases hu with rfl | rfl <;> rfl⟩

structure Chan where
  room : Int
  items : List Int
  senders : List Letter
  getters : List Int
  closed : Bool
  deriving DecidableEq

def chanV (m : Chan) (i s g : Sl) : Value := .agg #[.int .i64 m.room, i.val m.items.length, s.val m.senders.length, g.val m.getters.length, .bool m.closed]

def Chan.small (m : Chan) : Prop := m.items.length ≤ 4294967296 ∧ m.senders.length ≤ 4294967296 ∧ m.getters.length ≤ 4294967296

def Chan.threads (m : Chan) : List Int := m.senders.map (·.t) ++ m.getters

set_option maxRecDepth 100000 in
theorem isThread_c (t : Int) (w : World) : Calls Try.prog 120 #[.int .i64 t] w (Ret w fun v L => v = .bool (isThread t) ∧ L = []) := by
  refine calls1 Try.func120 rfl tabOk w _ rfl _ rfl [] trivial trivial _ (by decide) ?_
  refine CaseB.mk (fun h => ?_) (fun h => ?_)
  all_goals
    refine retw [] ⟨?_, rfl⟩ trivial rfl trivial (fun _ => rfl)
    simp [SV.den, isThread] at h ⊢
    omega

set_option maxRecDepth 100000 in
theorem isValue_c (t : Int) (w : World) : Calls Try.prog 69 #[.int .i64 t] w (Ret w fun v L => v = .bool (isValue t) ∧ L = []) := by
  refine calls1 Try.func69 rfl tabOk w _ rfl _ rfl [] trivial trivial _ (by decide) ?_
  refine CaseB.mk (fun h => ?_) (fun h => ?_)
  all_goals
    refine retw [] ⟨?_, rfl⟩ trivial rfl trivial (fun _ => rfl)
    simp [SV.den, isValue] at h ⊢
    omega

theorem wrapN (k n : Nat) (h : k < n) (hn : n ≤ 4294967296) : IntKind.i64.wrap ((k : Int) + 1) = ((k + 1 : Nat) : Int) := by
  rw [IntKind.wrap_i64]; omega

set_option maxRecDepth 100000 in
theorem threads_c (m : Chan) (i s g : Sl) (w : World) (h : At w [slo i cInt 1 m.items, slo s cLet 2 m.senders, slo g cInt 1 m.getters]) (hb : m.small) :
    Calls Try.prog 119 #[chanV m i s g] w (Ret w fun v L => ∃ y : Sl, v = y.val m.threads.length ∧ L = [own y 3 cInt 1 m.threads]) := by
  obtain ⟨b1, b2, b3⟩ := hb
  refine calls1 Try.func119 rfl tabOk w _ rfl _ rfl _ h ⟨rfl, rfl, rfl, rfl, rfl, rfl, trivial⟩ _ (by decide) ?_
  refine LoopW.mk ⟨{ p : Nat × Sl // p.1 ≤ m.senders.length },
    fun p => .mk [(1, .p 0 0), (3, .v (p.1.2.val ((m.senders.take p.1.1).map Letter.t).length)), (7, .v (s.val m.senders.length)), (8, .v (.int .i64 m.senders.length)), (9, .v (.int .i64 p.1.1))] 1 0 [(0, 74, 5)] [((0, 3), .v (g.val m.getters.length))] [own p.1.2 3 cInt 1 ((m.senders.take p.1.1).map Letter.t), slo s cLet 2 m.senders, slo g cInt 1 m.getters],
    fun p => m.senders.length - p.1.1, ⟨(0, ⟨none, 0⟩), Nat.zero_le _⟩, ?_, ?_⟩
  · refine weak_mk [99, 1, 2] ?_ ?_ ?_ ?_ ?_ rfl rfl
    · repeat (first | exact trivial | refine ⟨⟨_, rfl, (by first | exact .of rfl | exact .lit rfl | exact .of (by first | (rfl)) | exact .lit (by first | (rfl))), (by first | exact trivial | exact Nat.le_of_ble_eq_true rfl)⟩, ?_⟩)
    · repeat (first | exact trivial | refine ⟨⟨(by first | exact .head _ | exact .tail _ (.head _) | exact .tail _ (.tail _ (.head _)) | exact .tail _ (.tail _ (.tail _ (.head _))) | exact .tail _ (.tail _ (.tail _ (.tail _ (.head _)))) | exact .tail _ (.tail _ (.tail _ (.tail _ (.tail _ (.head _))))) | exact .tail _ (.tail _ (.tail _ (.tail _ (.tail _ (.tail _ (.head _)))))) | exact .tail _ (.tail _ (.tail _ (.tail _ (.tail _ (.tail _ (.tail _ (.head _))))))) | exact .tail _ (.tail _ (.tail _ (.tail _ (.tail _ (.tail _ (.tail _ (.tail _ (.head _)))))))) | exact .tail _ (.tail _ (.tail _ (.tail _ (.tail _ (.tail _ (.tail _ (.tail _ (.tail _ (.head _)))))))))), Nat.le_of_ble_eq_true rfl⟩, ?_⟩)
    · repeat (first | exact trivial | refine ⟨⟨_, rfl, (by first | exact .of rfl | exact .lit rfl | exact .of (by first | (rfl)) | exact .lit (by first | (rfl))), (by first | exact trivial | exact Nat.le_of_ble_eq_true rfl)⟩, ?_⟩)
    · repeat (first | exact trivial | refine ⟨⟨_, rfl⟩, ?_⟩)
    · repeat (first | exact trivial | refine ⟨.inl ⟨_, rfl, (by first | rfl | (rfl))⟩, ?_⟩ | refine ⟨.inr ⟨Nat.le_of_ble_eq_true rfl, rfl, rfl, rfl, rfl⟩, ?_⟩)
  · rintro ⟨⟨k, out⟩, hk⟩
    simp only at hk
    refine CaseB.mk (fun h => ?_) (fun h => ?_)
    · have hlt : k < m.senders.length := by simpa using h
      have hT : (m.senders.take (k + 1)).map Letter.t = (m.senders.take k).map Letter.t ++ [m.senders[k].t] := by
        rw [List.take_succ_eq_append_getElem hlt, List.map_append]; rfl
      refine stop_idx encLet tabOk rfl rfl rfl rfl rfl ⟨rfl, rfl⟩ (by first | exact rdAt 0 rfl | exact rdOwnAt 0 rfl | exact rdAt 1 rfl | exact rdOwnAt 1 rfl | exact rdAt 2 rfl | exact rdOwnAt 2 rfl | exact rdAt 3 rfl | exact rdOwnAt 3 rfl | exact rdAt 4 rfl | exact rdOwnAt 4 rfl | exact rdAt 5 rfl | exact rdOwnAt 5 rfl | exact rdAt 6 rfl | exact rdOwnAt 6 rfl | exact rdAt 7 rfl | exact rdOwnAt 7 rfl | exact rdAt 8 rfl | exact rdOwnAt 8 rfl | exact rdAt 9 rfl | exact rdOwnAt 9 rfl | exact rdAt 10 rfl | exact rdOwnAt 10 rfl | exact rdAt 11 rfl | exact rdOwnAt 11 rfl | exact rdAt 12 rfl | exact rdOwnAt 12 rfl | exact rdAt 13 rfl | exact rdOwnAt 13 rfl | exact rdAt 14 rfl | exact rdOwnAt 14 rfl | exact rdAt 15 rfl | exact rdOwnAt 15 rfl | exact rdAt 16 rfl | exact rdOwnAt 16 rfl | exact rdAt 17 rfl | exact rdOwnAt 17 rfl | exact rdAt 18 rfl | exact rdOwnAt 18 rfl | exact rdAt 19 rfl | exact rdOwnAt 19 rfl | exact rdAt 20 rfl | exact rdOwnAt 20 rfl | exact rdAt 21 rfl | exact rdOwnAt 21 rfl | exact rdAt 22 rfl | exact rdOwnAt 22 rfl | exact rdAt 23 rfl | exact rdOwnAt 23 rfl) k rfl (by first | omega | (simp; done) | (simp; omega) | (unfold maxLen; omega) | (unfold maxLen; simp; done) | (unfold maxLen; simp; omega)) (fun ad => ?_)
      refine AllSl.mk fun y => ?_
      refine stop_app encInt 1 tabOk (ys := [m.senders[k].t]) rfl rfl rfl rfl rfl rfl rfl rfl rfl (by decide) ⟨rfl, rfl⟩ rfl (by first | exact rdAt 0 rfl | exact rdOwnAt 0 rfl | exact rdAt 1 rfl | exact rdOwnAt 1 rfl | exact rdAt 2 rfl | exact rdOwnAt 2 rfl | exact rdAt 3 rfl | exact rdOwnAt 3 rfl | exact rdAt 4 rfl | exact rdOwnAt 4 rfl | exact rdAt 5 rfl | exact rdOwnAt 5 rfl | exact rdAt 6 rfl | exact rdOwnAt 6 rfl | exact rdAt 7 rfl | exact rdOwnAt 7 rfl | exact rdAt 8 rfl | exact rdOwnAt 8 rfl | exact rdAt 9 rfl | exact rdOwnAt 9 rfl | exact rdAt 10 rfl | exact rdOwnAt 10 rfl | exact rdAt 11 rfl | exact rdOwnAt 11 rfl | exact rdAt 12 rfl | exact rdOwnAt 12 rfl | exact rdAt 13 rfl | exact rdOwnAt 13 rfl | exact rdAt 14 rfl | exact rdOwnAt 14 rfl | exact rdAt 15 rfl | exact rdOwnAt 15 rfl | exact rdAt 16 rfl | exact rdOwnAt 16 rfl | exact rdAt 17 rfl | exact rdOwnAt 17 rfl | exact rdAt 18 rfl | exact rdOwnAt 18 rfl | exact rdAt 19 rfl | exact rdOwnAt 19 rfl | exact rdAt 20 rfl | exact rdOwnAt 20 rfl | exact rdAt 21 rfl | exact rdOwnAt 21 rfl | exact rdAt 22 rfl | exact rdOwnAt 22 rfl | exact rdAt 23 rfl | exact rdOwnAt 23 rfl) (by first | omega | (simp; done) | (simp; omega) | (unfold maxLen; omega) | (unfold maxLen; simp; done) | (unfold maxLen; simp; omega)) (by first | omega | (simp; done) | (simp; omega) | (unfold maxLen; omega) | (unfold maxLen; simp; done) | (unfold maxLen; simp; omega)) (fun z => ?_)
      refine ⟨⟨(k + 1, z), by omega⟩, ?_, by simp; omega⟩
      have hw := wrapN k _ hlt b2
      refine weak_mk [0, 2, 3] ?_ ?_ ?_ ?_ ?_ rfl rfl
      · repeat (first | exact trivial | refine ⟨⟨_, rfl, (by first | exact .of rfl | exact .lit rfl | exact .of (by first | ((first | (rw [hT]; done) | (simp only [hT]; done) | exact congrArg (fun z => SV.v (Value.int .i64 z)) hw))) | exact .lit (by first | ((first | (rw [hT]; done) | (simp only [hT]; done) | exact congrArg (fun z => SV.v (Value.int .i64 z)) hw)))), (by first | exact trivial | exact Nat.le_of_ble_eq_true rfl)⟩, ?_⟩)
      · repeat (first | exact trivial | refine ⟨⟨(by first | exact .head _ | exact .tail _ (.head _) | exact .tail _ (.tail _ (.head _)) | exact .tail _ (.tail _ (.tail _ (.head _))) | exact .tail _ (.tail _ (.tail _ (.tail _ (.head _)))) | exact .tail _ (.tail _ (.tail _ (.tail _ (.tail _ (.head _))))) | exact .tail _ (.tail _ (.tail _ (.tail _ (.tail _ (.tail _ (.head _)))))) | exact .tail _ (.tail _ (.tail _ (.tail _ (.tail _ (.tail _ (.tail _ (.head _))))))) | exact .tail _ (.tail _ (.tail _ (.tail _ (.tail _ (.tail _ (.tail _ (.tail _ (.head _)))))))) | exact .tail _ (.tail _ (.tail _ (.tail _ (.tail _ (.tail _ (.tail _ (.tail _ (.tail _ (.head _)))))))))), Nat.le_of_ble_eq_true rfl⟩, ?_⟩)
      · repeat (first | exact trivial | refine ⟨⟨_, rfl, (by first | exact .of rfl | exact .lit rfl | exact .of (by first | ((first | (rw [hT]; done) | (simp only [hT]; done) | exact congrArg (fun z => SV.v (Value.int .i64 z)) hw))) | exact .lit (by first | ((first | (rw [hT]; done) | (simp only [hT]; done) | exact congrArg (fun z => SV.v (Value.int .i64 z)) hw)))), (by first | exact trivial | exact Nat.le_of_ble_eq_true rfl)⟩, ?_⟩)
      · repeat (first | exact trivial | refine ⟨⟨_, rfl⟩, ?_⟩)
      · repeat (first | exact trivial | refine ⟨.inl ⟨_, rfl, (by first | rfl | ((first | (rw [hT]; done) | (simp only [hT]; done) | exact congrArg (fun z => SV.v (Value.int .i64 z)) hw)))⟩, ?_⟩ | refine ⟨.inr ⟨Nat.le_of_ble_eq_true rfl, rfl, rfl, rfl, rfl⟩, ?_⟩)
    · have hge : m.senders.length ≤ k := by simpa using h
      have hT : (m.senders.take k).map Letter.t = m.senders.map Letter.t := by rw [List.take_of_length_le hge]
      refine stop_appK encInt tabOk  rfl rfl rfl rfl rfl rfl rfl rfl rfl (by decide) ⟨rfl, rfl⟩ (by first | exact isAt 0 rfl | exact isAt 1 rfl | exact isAt 2 rfl | exact isAt 3 rfl | exact isAt 4 rfl | exact isAt 5 rfl | exact isAt 6 rfl | exact isAt 7 rfl | exact isAt 8 rfl | exact isAt 9 rfl | exact isAt 10 rfl | exact isAt 11 rfl) (by first | exact rdAt 0 rfl | exact rdOwnAt 0 rfl | exact rdAt 1 rfl | exact rdOwnAt 1 rfl | exact rdAt 2 rfl | exact rdOwnAt 2 rfl | exact rdAt 3 rfl | exact rdOwnAt 3 rfl | exact rdAt 4 rfl | exact rdOwnAt 4 rfl | exact rdAt 5 rfl | exact rdOwnAt 5 rfl | exact rdAt 6 rfl | exact rdOwnAt 6 rfl | exact rdAt 7 rfl | exact rdOwnAt 7 rfl | exact rdAt 8 rfl | exact rdOwnAt 8 rfl | exact rdAt 9 rfl | exact rdOwnAt 9 rfl | exact rdAt 10 rfl | exact rdOwnAt 10 rfl | exact rdAt 11 rfl | exact rdOwnAt 11 rfl | exact rdAt 12 rfl | exact rdOwnAt 12 rfl | exact rdAt 13 rfl | exact rdOwnAt 13 rfl | exact rdAt 14 rfl | exact rdOwnAt 14 rfl | exact rdAt 15 rfl | exact rdOwnAt 15 rfl | exact rdAt 16 rfl | exact rdOwnAt 16 rfl | exact rdAt 17 rfl | exact rdOwnAt 17 rfl | exact rdAt 18 rfl | exact rdOwnAt 18 rfl | exact rdAt 19 rfl | exact rdOwnAt 19 rfl | exact rdAt 20 rfl | exact rdOwnAt 20 rfl | exact rdAt 21 rfl | exact rdOwnAt 21 rfl | exact rdAt 22 rfl | exact rdOwnAt 22 rfl | exact rdAt 23 rfl | exact rdOwnAt 23 rfl) (by first | omega | (simp; done) | (simp; omega) | (unfold maxLen; omega) | (unfold maxLen; simp; done) | (unfold maxLen; simp; omega)) (by first | omega | (simp; done) | (simp; omega) | (unfold maxLen; omega) | (unfold maxLen; simp; done) | (unfold maxLen; simp; omega)) (fun z => ?_)
      exact retw [0] ⟨z, rfl, rfl⟩ ⟨.inl ⟨_, rfl, (by first | rfl | ((simp only [hT, Chan.threads, resV, SV.den])))⟩, trivial⟩ rfl ⟨rfl, trivial⟩ (fun _ => (by first | rfl | ((simp only [hT, Chan.threads, resV, SV.den]))))

end Go.Proofs.Ytpopeaoklccgcaa
