/- FnExactFormatState: texts that its proof stands on, part 5. -/
import Derived.Laws.IdiomStrings
import Derived.Laws.Strings2
import Derived.Laws.Slices
import Derived.Laws.Concat
import Derived.Lib.Join
import Derived.Lib.ItoaNum
import Derived.KernelRfl
import Derived.Test.YtchkcjeeknfchaaGreatDoorQExactFormatStated
namespace Go.Proofs.YtchkcjeeknfchaaGreatDoor

open Go Go.Sx Go.RowKit

set_option maxRecDepth 100000 in
theorem szChanS_c (h : Sl) (xs : List ChanH) (left : Int) (w : World) (hh : At w [fR (chansO h xs)]) (h0 : -1 ≤ left) (h1 : left ≤ 1048576) :
    Calls Tryz.prog 22 #[h.val xs.length, .int .i64 left] w (Ret w fun v L => v = .int .i64 (szAll szChanM (xs.map (·.m)) left) ∧ L = []) := by
  have hrd := (Rd.ofR (nest_h (xs := xs))).p w hh.1.1
  obtain ⟨_, b1, b2, _⟩ := hrd
  unfold maxLen at b2
  have e : IntKind.i64.wrap (left - (xs.length : Int)) = left - xs.length := e_wrap (by omega) (by omega)
  refine calls2 Tryz.func22 rfl tabOk w _ rfl _ rfl _ hh ⟨rfl, rfl, trivial⟩ _ _ (by decide) ?_
  refine CaseB.mk (fun g => ?_) (fun g => ?_)
  · rw [e] at g
    have g2 : left - (xs.length : Int) < 0 := by simpa using g
    exact retw [] ⟨by simp [szAll, g2], rfl⟩ trivial rfl trivial (fun _ => rfl)
  · rw [e] at g
    have g2 : ¬ left - (xs.length : Int) < 0 := by simpa using g
    refine LoopW.mk ⟨{ p : Nat × Int // p.1 ≤ xs.length ∧ szList szChanM ((xs.map (·.m)).drop p.1) p.2 = szAll szChanM (xs.map (·.m)) left ∧ -1 ≤ p.2 ∧ p.2 ≤ 1048576 },
      fun p => .mk [(0, .v (h.val xs.length)), (1, .v (.int .i64 p.1.2)), (5, .v (.int .i64 (p.1.1 : Int)))] 0 0 [] [] [fR (chansO h xs)],
      fun p => xs.length - p.1.1, ⟨(0, left - xs.length), Nat.zero_le _, by simp [szAll, g2], by omega, by omega⟩, ?_, ?_⟩
    · refine weak_mk [0] ?_ ?_ ?_ ?_ ?_ rfl rfl
      · repeat (first | exact trivial | refine ⟨⟨_, rfl, (by first | exact .of rfl | exact .lit rfl | exact .of (by first | ((simp only [e]))) | exact .lit (by first | ((simp only [e])))), (by first | exact trivial | exact Nat.le_of_ble_eq_true rfl | exact small1 rfl)⟩, ?_⟩)
      · repeat (first | exact trivial | refine ⟨⟨(by first | exact .head _ | exact .tail _ (.head _) | exact .tail _ (.tail _ (.head _)) | exact .tail _ (.tail _ (.tail _ (.head _))) | exact .tail _ (.tail _ (.tail _ (.tail _ (.head _)))) | exact .tail _ (.tail _ (.tail _ (.tail _ (.tail _ (.head _))))) | exact .tail _ (.tail _ (.tail _ (.tail _ (.tail _ (.tail _ (.head _)))))) | exact .tail _ (.tail _ (.tail _ (.tail _ (.tail _ (.tail _ (.tail _ (.head _))))))) | exact .tail _ (.tail _ (.tail _ (.tail _ (.tail _ (.tail _ (.tail _ (.tail _ (.head _)))))))) | exact .tail _ (.tail _ (.tail _ (.tail _ (.tail _ (.tail _ (.tail _ (.tail _ (.tail _ (.head _)))))))))), Nat.le_of_ble_eq_true rfl⟩, ?_⟩)
      · repeat (first | exact trivial | refine ⟨⟨_, rfl, (by first | exact .of rfl | exact .lit rfl | exact .of (by first | ((simp only [e]))) | exact .lit (by first | ((simp only [e])))), (by first | exact trivial | exact Nat.le_of_ble_eq_true rfl | exact small1 rfl)⟩, ?_⟩)
      · repeat (first | exact trivial | refine ⟨⟨_, rfl⟩, ?_⟩)
      · repeat (first | exact trivial | refine ⟨.inl ⟨_, rfl, (by first | rfl | ((simp only [e])))⟩, ?_⟩ | refine ⟨.inr ⟨Nat.le_of_ble_eq_true rfl, rfl, rfl, rfl, rfl⟩, ?_⟩)
    · rintro ⟨⟨k, l⟩, hk, hl, hl0, hl1⟩
      simp only at hk hl hl0 hl1
      refine CaseB.mk (fun g3 => ?_) (fun g3 => ?_)
      · have hlt : k < xs.length := by simpa using g3
        rw [List.drop_eq_getElem_cons (by simpa using hlt)] at hl
        simp only [szList, List.getElem_map] at hl
        refine stop_idx encChanH tabOk rfl rfl rfl rfl rfl ⟨rfl, rfl⟩ (rdVia 0 rfl (.ofR nest_h)) k rfl (by first | omega | (simp; done) | (simp; omega) | (unfold maxLen; omega) | (unfold maxLen; simp; done) | (unfold maxLen; simp; omega)) (fun ad => ?_)
        refine stop_call _ cl60 rfl rfl rfl rfl ⟨rfl, rfl⟩ (fun A w hW => szChan_c _ _ _ _ _ w ⟨hW.get 0 rfl (.ofR (chansO_0 h xs k hlt)), hW.get 0 rfl (.ofR (chansO_1 h xs k hlt)), hW.get 0 rfl (.ofR (chansO_2 h xs k hlt)), trivial⟩ hl0 hl1) ?_
        rintro v L ⟨rfl, rfl⟩
        refine CaseB.mk (fun g4 => ?_) (fun g4 => ?_)
        · have q : szChanM xs[k].m l < 0 := by simpa using g4
          rw [if_pos q] at hl
          exact retw [] ⟨by rw [← hl], rfl⟩ trivial rfl trivial (fun _ => rfl)
        · have q : ¬ szChanM xs[k].m l < 0 := by simpa using g4
          rw [if_neg q] at hl
          have q2 := (szChanM_gen xs[k].m l hl1 q).2
          have hw := e_succ k _ hlt (by omega)
          refine ⟨⟨(k + 1, szChanM xs[k].m l), hlt, hl, by omega, by omega⟩, ?_, by simp only; omega⟩
          refine weak_mk [0] ?_ ?_ ?_ ?_ ?_ rfl rfl
          · repeat (first | exact trivial | refine ⟨⟨_, rfl, (by first | exact .of rfl | exact .lit rfl | exact .of (by first | ((exact congrArg (fun z => SV.v (Value.int .i64 z)) hw))) | exact .lit (by first | ((exact congrArg (fun z => SV.v (Value.int .i64 z)) hw)))), (by first | exact trivial | exact Nat.le_of_ble_eq_true rfl | exact small1 rfl)⟩, ?_⟩)
          · repeat (first | exact trivial | refine ⟨⟨(by first | exact .head _ | exact .tail _ (.head _) | exact .tail _ (.tail _ (.head _)) | exact .tail _ (.tail _ (.tail _ (.head _))) | exact .tail _ (.tail _ (.tail _ (.tail _ (.head _)))) | exact .tail _ (.tail _ (.tail _ (.tail _ (.tail _ (.head _))))) | exact .tail _ (.tail _ (.tail _ (.tail _ (.tail _ (.tail _ (.head _)))))) | exact .tail _ (.tail _ (.tail _ (.tail _ (.tail _ (.tail _ (.tail _ (.head _))))))) | exact .tail _ (.tail _ (.tail _ (.tail _ (.tail _ (.tail _ (.tail _ (.tail _ (.head _)))))))) | exact .tail _ (.tail _ (.tail _ (.tail _ (.tail _ (.tail _ (.tail _ (.tail _ (.tail _ (.head _)))))))))), Nat.le_of_ble_eq_true rfl⟩, ?_⟩)
          · repeat (first | exact trivial | refine ⟨⟨_, rfl, (by first | exact .of rfl | exact .lit rfl | exact .of (by first | ((exact congrArg (fun z => SV.v (Value.int .i64 z)) hw))) | exact .lit (by first | ((exact congrArg (fun z => SV.v (Value.int .i64 z)) hw)))), (by first | exact trivial | exact Nat.le_of_ble_eq_true rfl | exact small1 rfl)⟩, ?_⟩)
          · repeat (first | exact trivial | refine ⟨⟨_, rfl⟩, ?_⟩)
          · repeat (first | exact trivial | refine ⟨.inl ⟨_, rfl, (by first | rfl | ((exact congrArg (fun z => SV.v (Value.int .i64 z)) hw)))⟩, ?_⟩ | refine ⟨.inr ⟨Nat.le_of_ble_eq_true rfl, rfl, rfl, rfl, rfl⟩, ?_⟩)
      · have hge : xs.length ≤ k := by simpa using g3
        rw [List.drop_eq_nil_of_le (by simpa using hge)] at hl
        exact retw [] ⟨congrArg (Value.int .i64) hl, rfl⟩ trivial rfl trivial (fun _ => rfl)

def ChanH0 : ChanH := ⟨⟨0, [], [], [], false⟩, ⟨none, 0⟩, ⟨none, 0⟩, ⟨none, 0⟩⟩

set_option maxRecDepth 100000 in
theorem toChanS_c (h : Sl) (xs : List ChanH) (w : World) (hh : At w [fR (chansO h xs)]) (hl : xs.length ≤ 1048576) (hb : ∀ x ∈ xs, Chan.small20 x.m) :
    Calls Tryz.prog 30 #[h.val xs.length] w (Ret w fun v L => ∃ (y : Sl) (ys : List ChanH), v = y.val ys.length ∧ ys.map (·.m) = xs.map (·.m) ∧ L = [fO (chansO y ys)]) := by
  refine calls1 Tryz.func30 rfl tabOk w _ rfl _ rfl _ hh ⟨rfl, rfl, trivial⟩ _ (by decide) ?_
  refine stop_make encChanH ChanH0 tabOk rfl rfl rfl rfl rfl (by decide) ⟨rfl, rfl⟩ xs.length rfl (by first | omega | (simp; done) | (simp; omega) | (unfold maxLen; omega) | (unfold maxLen; simp; done) | (unfold maxLen; simp; omega)) (by first | omega | (simp; done) | (simp; omega) | (unfold maxLen; omega) | (unfold maxLen; simp; done) | (unfold maxLen; simp; omega)) (fun y => ?_)
  refine LoopW.mk ⟨{ p : Nat × List ChanH // p.1 ≤ xs.length ∧ p.2.map (·.m) = (xs.map (·.m)).take p.1 },
    fun p => .mk [(0, .v (h.val xs.length)), (3, .v (y.val (p.1.2 ++ List.replicate (xs.length - p.1.1) ChanH0).length)), (4, .v (.int .i64 (p.1.1 : Int)))] 0 0 [] [] [own y 95 cChanH 5 (p.1.2 ++ List.replicate (xs.length - p.1.1) ChanH0), fO (p.1.2.flatMap chanO), fR (chansO h xs)],
    fun p => xs.length - p.1.1, ⟨(0, []), Nat.zero_le _, by simp⟩, ?_, ?_⟩
  · refine weak_shift (.joinO [] (Gs := []) trivial rfl (.refl _)) ?_
    refine weak_mk [1, 0, 2] ?_ ?_ ?_ ?_ ?_ rfl rfl
    · repeat (first | exact trivial | refine ⟨⟨_, rfl, (by first | exact .of rfl | exact .lit rfl | exact .of (by first | ((simp))) | exact .lit (by first | ((simp)))), (by first | exact trivial | exact Nat.le_of_ble_eq_true rfl | exact small1 rfl)⟩, ?_⟩)
    · repeat (first | exact trivial | refine ⟨⟨(by first | exact .head _ | exact .tail _ (.head _) | exact .tail _ (.tail _ (.head _)) | exact .tail _ (.tail _ (.tail _ (.head _))) | exact .tail _ (.tail _ (.tail _ (.tail _ (.head _)))) | exact .tail _ (.tail _ (.tail _ (.tail _ (.tail _ (.head _))))) | exact .tail _ (.tail _ (.tail _ (.tail _ (.tail _ (.tail _ (.head _)))))) | exact .tail _ (.tail _ (.tail _ (.tail _ (.tail _ (.tail _ (.tail _ (.head _))))))) | exact .tail _ (.tail _ (.tail _ (.tail _ (.tail _ (.tail _ (.tail _ (.tail _ (.head _)))))))) | exact .tail _ (.tail _ (.tail _ (.tail _ (.tail _ (.tail _ (.tail _ (.tail _ (.tail _ (.head _)))))))))), Nat.le_of_ble_eq_true rfl⟩, ?_⟩)
    · repeat (first | exact trivial | refine ⟨⟨_, rfl, (by first | exact .of rfl | exact .lit rfl | exact .of (by first | ((simp))) | exact .lit (by first | ((simp)))), (by first | exact trivial | exact Nat.le_of_ble_eq_true rfl | exact small1 rfl)⟩, ?_⟩)
    · repeat (first | exact trivial | refine ⟨⟨_, rfl⟩, ?_⟩)
    · repeat (first | exact trivial | refine ⟨.inl ⟨_, rfl, (by first | rfl | ((simp)))⟩, ?_⟩ | refine ⟨.inr ⟨Nat.le_of_ble_eq_true rfl, rfl, rfl, rfl, rfl⟩, ?_⟩)
  · rintro ⟨⟨k, ys⟩, hk, hy⟩
    simp only at hk hy
    have hyl : ys.length = k := by have := congrArg List.length hy; simp at this; omega
    refine CaseB.mk (fun g => ?_) (fun g => ?_)
    · have hlt : k < xs.length := by simpa using g
      have hlt2 : k < (ys ++ List.replicate (xs.length - k) ChanH0).length := by simp; omega
      refine stop_idx encChanH tabOk rfl rfl rfl rfl rfl ⟨rfl, rfl⟩ (rdVia 2 rfl (.ofR nest_h)) k rfl (by first | omega | (simp; done) | (simp; omega) | (unfold maxLen; omega) | (unfold maxLen; simp; done) | (unfold maxLen; simp; omega)) (fun ad => ?_)
      refine stop_call _ cl66 rfl rfl rfl rfl ⟨rfl, rfl⟩ (fun A w hW => toChan_c _ _ _ _ w ⟨hW.get 2 rfl (.ofR (chansO_0 h xs k hlt)), hW.get 2 rfl (.ofR (chansO_1 h xs k hlt)), hW.get 2 rfl (.ofR (chansO_2 h xs k hlt)), trivial⟩ (hb _ (List.getElem_mem hlt))) ?_
      rintro v L ⟨y0, y1, y2, rfl, rfl⟩
      generalize hx : (⟨xs[k].m, y0, y1, y2⟩ : ChanH) = x
      have hxm : x.m = xs[k].m := by rw [← hx]
      have hT : (ys ++ List.replicate (xs.length - k) ChanH0).set k x = (ys ++ [x]) ++ List.replicate (xs.length - (k + 1)) ChanH0 := by
        rw [List.set_append_right _ _ (by omega), show k - ys.length = 0 by omega, show xs.length - k = (xs.length - (k + 1)) + 1 by omega, List.replicate_succ, List.append_assoc]
        rfl
      generalize hq : (ys ++ List.replicate (xs.length - k) ChanH0) = Q at hT hlt2
      refine stop_idxW encChanH 3 tabOk rfl rfl rfl rfl rfl ⟨rfl, rfl⟩ rfl (by first | rfl | (simp; done)) k rfl hlt2 (fun g1 hg1 => ?_)
      refine stop_storeW encChanH 3 tabOk rfl rfl rfl rfl rfl rfl rfl rfl hg1 k 0 x rfl hlt2 rfl (cChanH x) (fun _ => by rw [← hx]; rfl) (by rw [List.drop_eq_nil_of_le (by exact Nat.le_refl _)]; simp) ?_
      have hw := e_succ k _ hlt (by omega)
      refine ⟨⟨(k + 1, ys ++ [x]), hlt, by rw [List.map_append]; exact map_take_succ hlt hy hxm⟩, ?_, by simp only; omega⟩
      refine weak_shift (.joinO [1, 2, 3, 4] (Gs := [[_], [_], [_], _]) ⟨.inl ⟨_, rfl, .own⟩, .inl ⟨_, rfl, .own⟩, .inl ⟨_, rfl, .own⟩, .inl ⟨_, rfl, .o⟩, trivial⟩ rfl (G := (ys ++ [x]).flatMap chanO) (by subst hx; rw [List.flatMap_append]; exact (List.Perm.of_eq (by simp [chanO])).trans List.perm_append_comm)) ?_
      refine weak_mk [1, 0, 2] ?_ ?_ ?_ ?_ ?_ rfl rfl
      · repeat (first | exact trivial | refine ⟨⟨_, rfl, (by first | exact .of rfl | exact .lit rfl | exact .of (by first | ((first | (rw [hT]; done) | (simp only; done) | exact congrArg (fun z => SV.v (Value.int .i64 z)) hw | (rw [← hT]; simp)))) | exact .lit (by first | ((first | (rw [hT]; done) | (simp only [hT]; done) | exact congrArg (fun z => SV.v (Value.int .i64 z)) hw | (rw [← hT]; simp))))), (by first | exact trivial | exact Nat.le_of_ble_eq_true rfl | exact small1 rfl)⟩, ?_⟩)
      · repeat (first | exact trivial | refine ⟨⟨(by first | exact .head _ | exact .tail _ (.head _) | exact .tail _ (.tail _ (.head _)) | exact .tail _ (.tail _ (.tail _ (.head _))) | exact .tail _ (.tail _ (.tail _ (.tail _ (.head _)))) | exact .tail _ (.tail _ (.tail _ (.tail _ (.tail _ (.head _))))) | exact .tail _ (.tail _ (.tail _ (.tail _ (.tail _ (.tail _ (.head _)))))) | exact .tail _ (.tail _ (.tail _ (.tail _ (.tail _ (.tail _ (.tail _ (.head _))))))) | exact .tail _ (.tail _ (.tail _ (.tail _ (.tail _ (.tail _ (.tail _ (.tail _ (.head _)))))))) | exact .tail _ (.tail _ (.tail _ (.tail _ (.tail _ (.tail _ (.tail _ (.tail _ (.tail _ (.head _)))))))))), Nat.le_of_ble_eq_true rfl⟩, ?_⟩)
      · repeat (first | exact trivial | refine ⟨⟨_, rfl, (by first | exact .of rfl | exact .lit rfl | exact .of (by first | ((first | (rw [hT]; done) | (simp only [hT]; done) | exact congrArg (fun z => SV.v (Value.int .i64 z)) hw | (rw [← hT]; simp)))) | exact .lit (by first | ((first | (rw [hT]; done) | (simp only [hT]; done) | exact congrArg (fun z => SV.v (Value.int .i64 z)) hw | (rw [← hT]; simp))))), (by first | exact trivial | exact Nat.le_of_ble_eq_true rfl | exact small1 rfl)⟩, ?_⟩)
      · repeat (first | exact trivial | refine ⟨⟨_, rfl⟩, ?_⟩)
      · repeat (first | exact trivial | refine ⟨.inl ⟨_, rfl, (by first | rfl | ((first | (rw [hT]; done) | (simp only [hT]; done) | exact congrArg (fun z => SV.v (Value.int .i64 z)) hw | (rw [← hT]; simp))))⟩, ?_⟩ | refine ⟨.inr ⟨Nat.le_of_ble_eq_true rfl, rfl, rfl, rfl, rfl⟩, ?_⟩)
    · have hge : xs.length ≤ k := by simpa using g
      have hT : ys ++ List.replicate (xs.length - k) ChanH0 = ys := by rw [show xs.length - k = 0 by omega]; simp
      simp only [hT]
      refine ret_shift (.joinO [0, 1] (Gs := [[_], _]) ⟨.inl ⟨_, rfl, .own⟩, .inl ⟨_, rfl, .o⟩, trivial⟩ rfl (G := chansO y ys) (.of_eq (by simp [chansO, nestO]))) ?_
      exact retw [0] ⟨y, ys, rfl, by rw [hy, List.take_of_length_le (by simpa using hge)], rfl⟩ ⟨.inl ⟨_, rfl, rfl⟩, trivial⟩ rfl ⟨rfl, trivial⟩ (fun _ => rfl)

set_option maxRecDepth 100000 in
theorem eqChanS_c (h h2 : Sl) (xs ys : List ChanH) (w : World) (hh : At w [fR (chansO h xs), fR (chansO h2 ys)]) (hl : xs.length ≤ 1048576) (hb : ∀ x ∈ xs, Chan.small20 x.m) (hb2 : ∀ x ∈ ys, Chan.small20 x.m) :
    Calls Tryz.prog 39 #[h.val xs.length, h2.val ys.length] w (Ret w fun v L => v = .bool (decide (xs.map (·.m) = ys.map (·.m))) ∧ L = []) := by
  refine calls2 Tryz.func39 rfl tabOk w _ rfl _ rfl _ hh ⟨rfl, rfl, rfl, rfl, trivial⟩ _ _ (by decide) ?_
  refine CaseB.mk (fun g => ?_) (fun g => ?_)
  · have hne : xs.map (·.m) ≠ ys.map (·.m) := fun e => by
      have := congrArg List.length e
      simp at this g
      omega
    refine retw [] ⟨?_, rfl⟩ trivial rfl trivial (fun _ => rfl)
    simp [hne]
  · have hll : xs.length = ys.length := by simp at g; omega
    refine LoopW.mk ⟨{ k : Nat // k ≤ xs.length ∧ (xs.map (·.m)).take k = (ys.map (·.m)).take k },
      fun p => .mk [(0, .v (h.val xs.length)), (1, .v (h2.val ys.length)), (5, .v (.int .i64 p.1))] 0 0 [] [] [fR (chansO h xs), fR (chansO h2 ys)],
      fun p => xs.length - p.1, ⟨0, Nat.zero_le _, rfl⟩, ?_, ?_⟩
    · refine weak_mk [0, 1] ?_ ?_ ?_ ?_ ?_ rfl rfl
      · repeat (first | exact trivial | refine ⟨⟨_, rfl, (by first | exact .of rfl | exact .lit rfl | exact .of (by first | (rfl)) | exact .lit (by first | (rfl))), (by first | exact trivial | exact Nat.le_of_ble_eq_true rfl | exact small1 rfl)⟩, ?_⟩)
      · repeat (first | exact trivial | refine ⟨⟨(by first | exact .head _ | exact .tail _ (.head _) | exact .tail _ (.tail _ (.head _)) | exact .tail _ (.tail _ (.tail _ (.head _))) | exact .tail _ (.tail _ (.tail _ (.tail _ (.head _)))) | exact .tail _ (.tail _ (.tail _ (.tail _ (.tail _ (.head _))))) | exact .tail _ (.tail _ (.tail _ (.tail _ (.tail _ (.tail _ (.head _)))))) | exact .tail _ (.tail _ (.tail _ (.tail _ (.tail _ (.tail _ (.tail _ (.head _))))))) | exact .tail _ (.tail _ (.tail _ (.tail _ (.tail _ (.tail _ (.tail _ (.tail _ (.head _)))))))) | exact .tail _ (.tail _ (.tail _ (.tail _ (.tail _ (.tail _ (.tail _ (.tail _ (.tail _ (.head _)))))))))), Nat.le_of_ble_eq_true rfl⟩, ?_⟩)
      · repeat (first | exact trivial | refine ⟨⟨_, rfl, (by first | exact .of rfl | exact .lit rfl | exact .of (by first | (rfl)) | exact .lit (by first | (rfl))), (by first | exact trivial | exact Nat.le_of_ble_eq_true rfl | exact small1 rfl)⟩, ?_⟩)
      · repeat (first | exact trivial | refine ⟨⟨_, rfl⟩, ?_⟩)
      · repeat (first | exact trivial | refine ⟨.inl ⟨_, rfl, (by first | rfl | (rfl))⟩, ?_⟩ | refine ⟨.inr ⟨Nat.le_of_ble_eq_true rfl, rfl, rfl, rfl, rfl⟩, ?_⟩)
    · rintro ⟨k, hk, he⟩
      refine CaseB.mk (fun g2 => ?_) (fun g2 => ?_)
      · have hlt : k < xs.length := by simpa using g2
        have hlt2 : k < ys.length := by omega
        obtain ⟨q1, q2⟩ := take_eq_succ he (by simpa using hlt) (by simpa using hlt2)
        simp only [List.getElem_map] at q1 q2
        refine draw_start tabOk (by kernel_rfl) (by kernel_rfl) (by kernel_rfl) 200 [] [0, 1] [_, _] trivial trivial ⟨rfl, rfl, trivial⟩ rfl ?_
        refine d_idx (ti := tiOf tab) encChanH tabOk rfl rfl rfl rfl rfl ⟨rfl, rfl⟩ (rdVia 0 rfl (.ofR nest_h)) k rfl (by first | omega | (simp; done) | (simp; omega) | (unfold maxLen; omega) | (unfold maxLen; simp; done) | (unfold maxLen; simp; omega)) (fun ad => ?_)
        refine d_idx (ti := tiOf tab) encChanH tabOk rfl rfl rfl rfl rfl ⟨rfl, rfl⟩ (rdVia 1 rfl (.ofR nest_h)) k rfl (by first | omega | (simp; done) | (simp; omega) | (unfold maxLen; omega) | (unfold maxLen; simp; done) | (unfold maxLen; simp; omega)) (fun ad2 => ?_)
        refine d_call _ cl76 rfl rfl rfl rfl ⟨rfl, rfl⟩ (fun A w hW => eqChan_c _ _ _ _ _ _ _ _ w ⟨hW.get 0 rfl (.ofR (chansO_0 h xs k hlt)), hW.get 0 rfl (.ofR (chansO_1 h xs k hlt)), hW.get 0 rfl (.ofR (chansO_2 h xs k hlt)), hW.get 1 rfl (.ofR (chansO_0 h2 ys k hlt2)), hW.get 1 rfl (.ofR (chansO_1 h2 ys k hlt2)), hW.get 1 rfl (.ofR (chansO_2 h2 ys k hlt2)), trivial⟩ (hb _ (List.getElem_mem hlt)) (hb2 _ (List.getElem_mem hlt2))) ?_
        rintro v L ⟨rfl, rfl⟩
        refine CaseB.mk (fun g3 => ?_) (fun g3 => ?_)
        · have hne := q2 (by simpa using g3)
          refine retw [] ⟨?_, rfl⟩ trivial rfl trivial (fun _ => rfl)
          simp [hne]
        · have heq := q1 (by simpa using g3)
          have hw := e_succ k _ hlt (by omega)
          refine ⟨⟨k + 1, by omega, heq⟩, ?_, by simp; omega⟩
          refine weak_mk [0, 1] ?_ ?_ ?_ ?_ ?_ rfl rfl
          · repeat (first | exact trivial | refine ⟨⟨_, rfl, (by first | exact .of rfl | exact .lit rfl | exact .of (by first | ((exact congrArg (fun z => SV.v (Value.int .i64 z)) hw))) | exact .lit (by first | ((exact congrArg (fun z => SV.v (Value.int .i64 z)) hw)))), (by first | exact trivial | exact Nat.le_of_ble_eq_true rfl | exact small1 rfl)⟩, ?_⟩)
          · repeat (first | exact trivial | refine ⟨⟨(by first | exact .head _ | exact .tail _ (.head _) | exact .tail _ (.tail _ (.head _)) | exact .tail _ (.tail _ (.tail _ (.head _))) | exact .tail _ (.tail _ (.tail _ (.tail _ (.head _)))) | exact .tail _ (.tail _ (.tail _ (.tail _ (.tail _ (.head _))))) | exact .tail _ (.tail _ (.tail _ (.tail _ (.tail _ (.tail _ (.head _)))))) | exact .tail _ (.tail _ (.tail _ (.tail _ (.tail _ (.tail _ (.tail _ (.head _))))))) | exact .tail _ (.tail _ (.tail _ (.tail _ (.tail _ (.tail _ (.tail _ (.tail _ (.head _)))))))) | exact .tail _ (.tail _ (.tail _ (.tail _ (.tail _ (.tail _ (.tail _ (.tail _ (.tail _ (.head _)))))))))), Nat.le_of_ble_eq_true rfl⟩, ?_⟩)
          · repeat (first | exact trivial | refine ⟨⟨_, rfl, (by first | exact .of rfl | exact .lit rfl | exact .of (by first | ((exact congrArg (fun z => SV.v (Value.int .i64 z)) hw))) | exact .lit (by first | ((exact congrArg (fun z => SV.v (Value.int .i64 z)) hw)))), (by first | exact trivial | exact Nat.le_of_ble_eq_true rfl | exact small1 rfl)⟩, ?_⟩)
          · repeat (first | exact trivial | refine ⟨⟨_, rfl⟩, ?_⟩)
          · repeat (first | exact trivial | refine ⟨.inl ⟨_, rfl, (by first | rfl | ((exact congrArg (fun z => SV.v (Value.int .i64 z)) hw)))⟩, ?_⟩ | refine ⟨.inr ⟨Nat.le_of_ble_eq_true rfl, rfl, rfl, rfl, rfl⟩, ?_⟩)
      · have hge : xs.length ≤ k := by simpa using g2
        have heq : xs.map (·.m) = ys.map (·.m) := by rw [List.take_of_length_le (by simpa using hge), List.take_of_length_le (by simp; omega)] at he; exact he
        refine retw [] ⟨?_, rfl⟩ trivial rfl trivial (fun _ => rfl)
        simp [heq]

end Go.Proofs.YtchkcjeeknfchaaGreatDoor

namespace Go.Proofs.YtchkcjeeknfchaaGreatDoor

open Go Go.Sx Go.RowKit

def State.small20 (s : State) : Prop := s.places.length ≤ 1048576 ∧ s.status.length ≤ 1048576 ∧ allS Sem.small20 s.sems ∧ allS Once.small20 s.onces ∧ allS Group.small20 s.groups ∧ allS Barrier.small20 s.barriers ∧ allS Chan.small20 s.chans ∧ s.said.length ≤ 1048576

def szStateM (s : State) (left : Int) : Int := szSeq [szN s.places.length, szN s.status.length, szAll szSemM s.sems, szAll szOnceM s.onces, szAll szGroupM s.groups, szAll szBarrierM s.barriers, szAll szChanM s.chans, szN s.said.length] left

theorem szStateM_gen (s : State) (l : Int) (hl : l ≤ 1048576) (h : ¬ szStateM s l < 0) : s.small20 ∧ szStateM s l ≤ l := by
  simp only [szStateM, szSeq, szList] at h ⊢
  by_cases q0 : szN s.places.length l < 0
  · simp [q0] at h
  obtain ⟨p0, r0⟩ := szN_gen hl q0
  have t0 : szN s.places.length l ≤ 1048576 := Int.le_trans r0 hl
  by_cases q1 : szN s.status.length (szN s.places.length l) < 0
  · simp [q0, q1] at h
  obtain ⟨p1, r1⟩ := szN_gen t0 q1
  have t1 : szN s.status.length (szN s.places.length l) ≤ 1048576 := Int.le_trans r1 t0
  by_cases q2 : szAll szSemM s.sems (szN s.status.length (szN s.places.length l)) < 0
  · simp [q0, q1, q2] at h
  obtain ⟨p2, r2⟩ := szAll_gen szSemM_gen t1 q2
  have t2 : szAll szSemM s.sems (szN s.status.length (szN s.places.length l)) ≤ 1048576 := Int.le_trans r2 t1
  by_cases q3 : szAll szOnceM s.onces (szAll szSemM s.sems (szN s.status.length (szN s.places.length l))) < 0
  · simp [q0, q1, q2, q3] at h
  obtain ⟨p3, r3⟩ := szAll_gen szOnceM_gen t2 q3
  have t3 : szAll szOnceM s.onces (szAll szSemM s.sems (szN s.status.length (szN s.places.length l))) ≤ 1048576 := Int.le_trans r3 t2
  by_cases q4 : szAll szGroupM s.groups (szAll szOnceM s.onces (szAll szSemM s.sems (szN s.status.length (szN s.places.length l)))) < 0
  · simp [q0, q1, q2, q3, q4] at h
  obtain ⟨p4, r4⟩ := szAll_gen szGroupM_gen t3 q4
  have t4 : szAll szGroupM s.groups (szAll szOnceM s.onces (szAll szSemM s.sems (szN s.status.length (szN s.places.length l)))) ≤ 1048576 := Int.le_trans r4 t3
  by_cases q5 : szAll szBarrierM s.barriers (szAll szGroupM s.groups (szAll szOnceM s.onces (szAll szSemM s.sems (szN s.status.length (szN s.places.length l))))) < 0
  · simp [q0, q1, q2, q3, q4, q5] at h
  obtain ⟨p5, r5⟩ := szAll_gen szBarrierM_gen t4 q5
  have t5 : szAll szBarrierM s.barriers (szAll szGroupM s.groups (szAll szOnceM s.onces (szAll szSemM s.sems (szN s.status.length (szN s.places.length l))))) ≤ 1048576 := Int.le_trans r5 t4
  by_cases q6 : szAll szChanM s.chans (szAll szBarrierM s.barriers (szAll szGroupM s.groups (szAll szOnceM s.onces (szAll szSemM s.sems (szN s.status.length (szN s.places.length l)))))) < 0
  · simp [q0, q1, q2, q3, q4, q5, q6] at h
  obtain ⟨p6, r6⟩ := szAll_gen szChanM_gen t5 q6
  have t6 : szAll szChanM s.chans (szAll szBarrierM s.barriers (szAll szGroupM s.groups (szAll szOnceM s.onces (szAll szSemM s.sems (szN s.status.length (szN s.places.length l)))))) ≤ 1048576 := Int.le_trans r6 t5
  by_cases q7 : szN s.said.length (szAll szChanM s.chans (szAll szBarrierM s.barriers (szAll szGroupM s.groups (szAll szOnceM s.onces (szAll szSemM s.sems (szN s.status.length (szN s.places.length l))))))) < 0
  · simp [q0, q1, q2, q3, q4, q5, q6, q7] at h
  obtain ⟨p7, r7⟩ := szN_gen t6 q7
  have t7 : szN s.said.length (szAll szChanM s.chans (szAll szBarrierM s.barriers (szAll szGroupM s.groups (szAll szOnceM s.onces (szAll szSemM s.sems (szN s.status.length (szN s.places.length l))))))) ≤ 1048576 := Int.le_trans r7 t6
  simp only [q0, q1, q2, q3, q4, q5, q6, q7, if_false]
  exact ⟨⟨p0, p1, p2, p3, p4, p5, p6, p7⟩, by omega⟩

set_option maxHeartbeats 16000000 in
set_option maxRecDepth 100000 in
theorem szState_c (s : StateH) (left : Int) (w : World) (h : At w [fR (stateO s)]) (h0 : -1 ≤ left) (h1 : left ≤ 1048576) :
    Calls Tryz.prog 6 #[stateV s, .int .i64 left] w (Ret w fun v L => v = .int .i64 (szStateM s.pure left) ∧ L = []) := by
  have hz : szStateM s.pure left = szSeq [szN s.places.length, szN s.status.length, szAll szSemM (s.sems.map (·.m)), szAll szOnceM (s.onces.map (·.m)), szAll szGroupM (s.groups.map (·.m)), szAll szBarrierM (s.barriers.map (·.m)), szAll szChanM (s.chans.map (·.m)), szN s.said.length] left := rfl
  simp only [szSeq, szList] at hz
  refine calls2 Tryz.func6 rfl tabOk w _ rfl _ rfl _ h ⟨rfl, rfl, trivial⟩ _ _ (by decide) ?_
  refine stop_call _ cl16 rfl rfl rfl rfl ⟨rfl, rfl⟩ (fun A w hW => ret_abs (szIntS_c s.h0 s.places left w ⟨hW.get 0 rfl (.ofR (stateO_places s)), trivial⟩ h0 h1)) ?_
  rintro v L ⟨a0, e0, rfl, rfl⟩
  have r0 : ¬ szN s.places.length left < 0 → szN s.places.length left ≤ left := fun q => (szN_gen h1 q).2
  simp only [← e0] at hz
  rw [← e0] at r0
  refine CaseB.mk (fun g => ?_) (fun g => ?_)
  · have q : a0 < 0 := by simpa using g
    exact retw [] ⟨by rw [hz]; simp [q], rfl⟩ trivial rfl trivial (fun _ => rfl)
  have q0 : ¬ a0 < 0 := by simpa using g
  have u0 : -1 ≤ a0 := by omega
  have v0 : a0 ≤ 1048576 := Int.le_trans (r0 q0) h1
  refine stop_call _ cl16 rfl rfl rfl rfl ⟨rfl, rfl⟩ (fun A w hW => ret_abs (szIntS_c s.h1 s.status a0 w ⟨hW.get 0 rfl (.ofR (stateO_status s)), trivial⟩ u0 v0)) ?_
  rintro v L ⟨a1, e1, rfl, rfl⟩
  have r1 : ¬ szN s.status.length a0 < 0 → szN s.status.length a0 ≤ a0 := fun q => (szN_gen v0 q).2
  simp only [← e1] at hz
  rw [← e1] at r1
  refine CaseB.mk (fun g => ?_) (fun g => ?_)
  · have q : a1 < 0 := by simpa using g
    exact retw [] ⟨by rw [hz]; simp [q0, q], rfl⟩ trivial rfl trivial (fun _ => rfl)
  have q1 : ¬ a1 < 0 := by simpa using g
  have u1 : -1 ≤ a1 := by omega
  have v1 : a1 ≤ 1048576 := Int.le_trans (r1 q1) v0
  refine stop_call _ cl18 rfl rfl rfl rfl ⟨rfl, rfl⟩ (fun A w hW => ret_abs (szSemS_c s.h2 s.sems a1 w ⟨hW.get 0 rfl (.R_R (stateO_sems s)), trivial⟩ u1 v1)) ?_
  rintro v L ⟨a2, e2, rfl, rfl⟩
  have r2 : ¬ szAll szSemM (s.sems.map (·.m)) a1 < 0 → szAll szSemM (s.sems.map (·.m)) a1 ≤ a1 := fun q => (szAll_gen szSemM_gen v1 q).2
  simp only [← e2] at hz
  rw [← e2] at r2
  refine CaseB.mk (fun g => ?_) (fun g => ?_)
  · have q : a2 < 0 := by simpa using g
    exact retw [] ⟨by rw [hz]; simp [q0, q1, q], rfl⟩ trivial rfl trivial (fun _ => rfl)
  have q2 : ¬ a2 < 0 := by simpa using g
  have u2 : -1 ≤ a2 := by omega
  have v2 : a2 ≤ 1048576 := Int.le_trans (r2 q2) v1
  refine stop_call _ cl19 rfl rfl rfl rfl ⟨rfl, rfl⟩ (fun A w hW => ret_abs (szOnceS_c s.h3 s.onces a2 w ⟨hW.get 0 rfl (.R_R (stateO_onces s)), trivial⟩ u2 v2)) ?_
  rintro v L ⟨a3, e3, rfl, rfl⟩
  have r3 : ¬ szAll szOnceM (s.onces.map (·.m)) a2 < 0 → szAll szOnceM (s.onces.map (·.m)) a2 ≤ a2 := fun q => (szAll_gen szOnceM_gen v2 q).2
  simp only [← e3] at hz
  rw [← e3] at r3
  refine CaseB.mk (fun g => ?_) (fun g => ?_)
  · have q : a3 < 0 := by simpa using g
    exact retw [] ⟨by rw [hz]; simp [q0, q1, q2, q], rfl⟩ trivial rfl trivial (fun _ => rfl)
  have q3 : ¬ a3 < 0 := by simpa using g
  have u3 : -1 ≤ a3 := by omega
  have v3 : a3 ≤ 1048576 := Int.le_trans (r3 q3) v2
  refine stop_call _ cl20 rfl rfl rfl rfl ⟨rfl, rfl⟩ (fun A w hW => ret_abs (szGroupS_c s.h4 s.groups a3 w ⟨hW.get 0 rfl (.R_R (stateO_groups s)), trivial⟩ u3 v3)) ?_
  rintro v L ⟨a4, e4, rfl, rfl⟩
  have r4 : ¬ szAll szGroupM (s.groups.map (·.m)) a3 < 0 → szAll szGroupM (s.groups.map (·.m)) a3 ≤ a3 := fun q => (szAll_gen szGroupM_gen v3 q).2
  simp only [← e4] at hz
  rw [← e4] at r4
  refine CaseB.mk (fun g => ?_) (fun g => ?_)
  · have q : a4 < 0 := by simpa using g
    exact retw [] ⟨by rw [hz]; simp [q0, q1, q2, q3, q], rfl⟩ trivial rfl trivial (fun _ => rfl)
  have q4 : ¬ a4 < 0 := by simpa using g
  have u4 : -1 ≤ a4 := by omega
  have v4 : a4 ≤ 1048576 := Int.le_trans (r4 q4) v3
  refine stop_call _ cl21 rfl rfl rfl rfl ⟨rfl, rfl⟩ (fun A w hW => ret_abs (szBarrierS_c s.h5 s.barriers a4 w ⟨hW.get 0 rfl (.R_R (stateO_barriers s)), trivial⟩ u4 v4)) ?_
  rintro v L ⟨a5, e5, rfl, rfl⟩
  have r5 : ¬ szAll szBarrierM (s.barriers.map (·.m)) a4 < 0 → szAll szBarrierM (s.barriers.map (·.m)) a4 ≤ a4 := fun q => (szAll_gen szBarrierM_gen v4 q).2
  simp only [← e5] at hz
  rw [← e5] at r5
  refine CaseB.mk (fun g => ?_) (fun g => ?_)
  · have q : a5 < 0 := by simpa using g
    exact retw [] ⟨by rw [hz]; simp [q0, q1, q2, q3, q4, q], rfl⟩ trivial rfl trivial (fun _ => rfl)
  have q5 : ¬ a5 < 0 := by simpa using g
  have u5 : -1 ≤ a5 := by omega
  have v5 : a5 ≤ 1048576 := Int.le_trans (r5 q5) v4
  refine stop_call _ cl22 rfl rfl rfl rfl ⟨rfl, rfl⟩ (fun A w hW => ret_abs (szChanS_c s.h6 s.chans a5 w ⟨hW.get 0 rfl (.R_R (stateO_chans s)), trivial⟩ u5 v5)) ?_
  rintro v L ⟨a6, e6, rfl, rfl⟩
  have r6 : ¬ szAll szChanM (s.chans.map (·.m)) a5 < 0 → szAll szChanM (s.chans.map (·.m)) a5 ≤ a5 := fun q => (szAll_gen szChanM_gen v5 q).2
  simp only [← e6] at hz
  rw [← e6] at r6
  refine CaseB.mk (fun g => ?_) (fun g => ?_)
  · have q : a6 < 0 := by simpa using g
    exact retw [] ⟨by rw [hz]; simp [q0, q1, q2, q3, q4, q5, q], rfl⟩ trivial rfl trivial (fun _ => rfl)
  have q6 : ¬ a6 < 0 := by simpa using g
  have u6 : -1 ≤ a6 := by omega
  have v6 : a6 ≤ 1048576 := Int.le_trans (r6 q6) v5
  refine stop_call _ cl16 rfl rfl rfl rfl ⟨rfl, rfl⟩ (fun A w hW => ret_abs (szIntS_c s.h7 s.said a6 w ⟨hW.get 0 rfl (.ofR (stateO_said s)), trivial⟩ u6 v6)) ?_
  rintro v L ⟨a7, e7, rfl, rfl⟩
  have r7 : ¬ szN s.said.length a6 < 0 → szN s.said.length a6 ≤ a6 := fun q => (szN_gen v6 q).2
  simp only [← e7] at hz
  rw [← e7] at r7
  refine CaseB.mk (fun g => ?_) (fun g => ?_)
  · have q : a7 < 0 := by simpa using g
    exact retw [] ⟨by rw [hz]; simp [q0, q1, q2, q3, q4, q5, q6, q], rfl⟩ trivial rfl trivial (fun _ => rfl)
  have q7 : ¬ a7 < 0 := by simpa using g
  have u7 : -1 ≤ a7 := by omega
  have v7 : a7 ≤ 1048576 := Int.le_trans (r7 q7) v6
  refine retw [] ⟨?_, rfl⟩ trivial rfl trivial (fun _ => rfl)
  rw [hz]; simp [q0, q1, q2, q3, q4, q5, q6, q7]

set_option maxHeartbeats 16000000 in
set_option maxRecDepth 100000 in
theorem toState_c (s : StateH) (w : World) (h : At w [fR (stateO s)]) (hb : s.pure.small20) :
    Calls Tryz.prog 9 #[stateV s] w (Ret w fun v L => ∃ y : StateH, v = stateV y ∧ y.pure = s.pure ∧ L = [fO (stateO y)]) := by
  obtain ⟨b0, b1, b2, b3, b4, b5, b6, b7⟩ := hb
  refine calls1 Tryz.func9 rfl tabOk w _ rfl _ rfl _ h ⟨rfl, rfl, trivial⟩ _ (by decide) ?_
  refine stop_call _ cl24 rfl rfl rfl rfl ⟨rfl, rfl⟩ (fun A w hW => toIntS_c s.h0 s.places w ⟨hW.get 0 rfl (.ofR (stateO_places s)), trivial⟩ b0) ?_
  rintro v L ⟨y0, rfl, rfl⟩
  refine stop_call _ cl24 rfl rfl rfl rfl ⟨rfl, rfl⟩ (fun A w hW => toIntS_c s.h1 s.status w ⟨hW.get 1 rfl (.ofR (stateO_status s)), trivial⟩ b1) ?_
  rintro v L ⟨y1, rfl, rfl⟩
  refine stop_call _ cl26 rfl rfl rfl rfl ⟨rfl, rfl⟩ (fun A w hW => toSemS_c s.h2 s.sems w ⟨hW.get 2 rfl (.R_R (stateO_sems s)), trivial⟩ (allS_map b2).1 (allS_map b2).2) ?_
  rintro v L ⟨y2, ys2, rfl, e2, rfl⟩
  refine stop_call _ cl27 rfl rfl rfl rfl ⟨rfl, rfl⟩ (fun A w hW => toOnceS_c s.h3 s.onces w ⟨hW.get 3 rfl (.R_R (stateO_onces s)), trivial⟩ (allS_map b3).1 (allS_map b3).2) ?_
  rintro v L ⟨y3, ys3, rfl, e3, rfl⟩
  refine stop_call _ cl28 rfl rfl rfl rfl ⟨rfl, rfl⟩ (fun A w hW => toGroupS_c s.h4 s.groups w ⟨hW.get 4 rfl (.R_R (stateO_groups s)), trivial⟩ (allS_map b4).1 (allS_map b4).2) ?_
  rintro v L ⟨y4, ys4, rfl, e4, rfl⟩
  refine stop_call _ cl29 rfl rfl rfl rfl ⟨rfl, rfl⟩ (fun A w hW => toBarrierS_c s.h5 s.barriers w ⟨hW.get 5 rfl (.R_R (stateO_barriers s)), trivial⟩ (allS_map b5).1 (allS_map b5).2) ?_
  rintro v L ⟨y5, ys5, rfl, e5, rfl⟩
  refine stop_call _ cl30 rfl rfl rfl rfl ⟨rfl, rfl⟩ (fun A w hW => toChanS_c s.h6 s.chans w ⟨hW.get 6 rfl (.R_R (stateO_chans s)), trivial⟩ (allS_map b6).1 (allS_map b6).2) ?_
  rintro v L ⟨y6, ys6, rfl, e6, rfl⟩
  refine stop_call _ cl24 rfl rfl rfl rfl ⟨rfl, rfl⟩ (fun A w hW => toIntS_c s.h7 s.said w ⟨hW.get 7 rfl (.ofR (stateO_said s)), trivial⟩ b7) ?_
  rintro v L ⟨y7, rfl, rfl⟩
  generalize hy : (⟨s.places, s.status, ys2, ys3, ys4, ys5, ys6, s.said, s.fault, y0, y1, y2, y3, y4, y5, y6, y7⟩ : StateH) = y
  refine ret_shift (.joinO [7, 6, 5, 4, 3, 2, 1, 0] (Gs := [[_], [_], _, _, _, _, _, [_]]) ⟨.inl ⟨_, rfl, .own⟩, .inl ⟨_, rfl, .own⟩, .inl ⟨_, rfl, .o⟩, .inl ⟨_, rfl, .o⟩, .inl ⟨_, rfl, .o⟩, .inl ⟨_, rfl, .o⟩, .inl ⟨_, rfl, .o⟩, .inl ⟨_, rfl, .own⟩, trivial⟩ rfl (G := stateO y) ?_) ?_
  · subst hy; exact .of_eq (by simp [stateO])
  exact retw [0] ⟨y, by rw [← hy]; rfl, by rw [← hy]; simp [StateH.pure, e2, e3, e4, e5, e6], rfl⟩ ⟨.inl ⟨_, rfl, rfl⟩, trivial⟩ rfl ⟨rfl, trivial⟩ (fun _ => rfl)

set_option maxHeartbeats 16000000 in
set_option maxRecDepth 100000 in
theorem eqState_c (s t : StateH) (w : World) (h : At w [fR (stateO s), fR (stateO t)]) (hb : s.pure.small20) (hb2 : t.pure.small20) :
    Calls Tryz.prog 12 #[stateV s, stateV t] w (Ret w fun v L => v = .bool (decide (s.pure = t.pure)) ∧ L = []) := by
  have hx : s.pure = t.pure ↔ s.places = t.places ∧ s.status = t.status ∧ s.sems.map (·.m) = t.sems.map (·.m) ∧ s.onces.map (·.m) = t.onces.map (·.m) ∧ s.groups.map (·.m) = t.groups.map (·.m) ∧ s.barriers.map (·.m) = t.barriers.map (·.m) ∧ s.chans.map (·.m) = t.chans.map (·.m) ∧ s.said = t.said ∧ s.fault = t.fault := by
    simp only [StateH.pure, State.mk.injEq]
  obtain ⟨b0, b1, b2, b3, b4, b5, b6, b7⟩ := hb
  obtain ⟨c0, c1, c2, c3, c4, c5, c6, c7⟩ := hb2
  refine calls2 Tryz.func12 rfl tabOk w _ rfl _ rfl _ h ⟨rfl, rfl, rfl, rfl, trivial⟩ _ _ (by decide) ?_
  refine stop_call _ cl33 rfl rfl rfl rfl ⟨rfl, rfl⟩ (fun A w hW => eqIntS_c s.h0 t.h0 s.places t.places w ⟨hW.get 0 rfl (.ofR (stateO_places s)), hW.get 1 rfl (.ofR (stateO_places t)), trivial⟩ (Nat.le_trans b0 (by decide)) (Nat.le_trans c0 (by decide))) ?_
  rintro v L ⟨rfl, rfl⟩
  refine CaseB.mk (fun g0 => ?_) (fun g0 => ?_)
  · have g : ¬ s.pure = t.pure := fun e => by rw [hx] at e; simp [e] at g0
    exact retw [] ⟨by simp [g], rfl⟩ trivial rfl trivial (fun _ => rfl)
  refine stop_call _ cl33 rfl rfl rfl rfl ⟨rfl, rfl⟩ (fun A w hW => eqIntS_c s.h1 t.h1 s.status t.status w ⟨hW.get 0 rfl (.ofR (stateO_status s)), hW.get 1 rfl (.ofR (stateO_status t)), trivial⟩ (Nat.le_trans b1 (by decide)) (Nat.le_trans c1 (by decide))) ?_
  rintro v L ⟨rfl, rfl⟩
  refine CaseB.mk (fun g1 => ?_) (fun g1 => ?_)
  · have g : ¬ s.pure = t.pure := fun e => by rw [hx] at e; simp [e] at g1
    exact retw [] ⟨by simp [g], rfl⟩ trivial rfl trivial (fun _ => rfl)
  refine stop_call _ cl35 rfl rfl rfl rfl ⟨rfl, rfl⟩ (fun A w hW => eqSemS_c s.h2 t.h2 s.sems t.sems w ⟨hW.get 0 rfl (.R_R (stateO_sems s)), hW.get 1 rfl (.R_R (stateO_sems t)), trivial⟩ (allS_map b2).1 (allS_map b2).2 (allS_map c2).2) ?_
  rintro v L ⟨rfl, rfl⟩
  refine CaseB.mk (fun g2 => ?_) (fun g2 => ?_)
  · have g : ¬ s.pure = t.pure := fun e => by rw [hx] at e; simp [e] at g2
    exact retw [] ⟨by simp [g], rfl⟩ trivial rfl trivial (fun _ => rfl)
  refine stop_call _ cl36 rfl rfl rfl rfl ⟨rfl, rfl⟩ (fun A w hW => eqOnceS_c s.h3 t.h3 s.onces t.onces w ⟨hW.get 0 rfl (.R_R (stateO_onces s)), hW.get 1 rfl (.R_R (stateO_onces t)), trivial⟩ (allS_map b3).1 (allS_map b3).2 (allS_map c3).2) ?_
  rintro v L ⟨rfl, rfl⟩
  refine CaseB.mk (fun g3 => ?_) (fun g3 => ?_)
  · have g : ¬ s.pure = t.pure := fun e => by rw [hx] at e; simp [e] at g3
    exact retw [] ⟨by simp [g], rfl⟩ trivial rfl trivial (fun _ => rfl)
  refine stop_call _ cl37 rfl rfl rfl rfl ⟨rfl, rfl⟩ (fun A w hW => eqGroupS_c s.h4 t.h4 s.groups t.groups w ⟨hW.get 0 rfl (.R_R (stateO_groups s)), hW.get 1 rfl (.R_R (stateO_groups t)), trivial⟩ (allS_map b4).1 (allS_map b4).2 (allS_map c4).2) ?_
  rintro v L ⟨rfl, rfl⟩
  refine CaseB.mk (fun g4 => ?_) (fun g4 => ?_)
  · have g : ¬ s.pure = t.pure := fun e => by rw [hx] at e; simp [e] at g4
    exact retw [] ⟨by simp [g], rfl⟩ trivial rfl trivial (fun _ => rfl)
  refine stop_call _ cl38 rfl rfl rfl rfl ⟨rfl, rfl⟩ (fun A w hW => eqBarrierS_c s.h5 t.h5 s.barriers t.barriers w ⟨hW.get 0 rfl (.R_R (stateO_barriers s)), hW.get 1 rfl (.R_R (stateO_barriers t)), trivial⟩ (allS_map b5).1 (allS_map b5).2 (allS_map c5).2) ?_
  rintro v L ⟨rfl, rfl⟩
  refine CaseB.mk (fun g5 => ?_) (fun g5 => ?_)
  · have g : ¬ s.pure = t.pure := fun e => by rw [hx] at e; simp [e] at g5
    exact retw [] ⟨by simp [g], rfl⟩ trivial rfl trivial (fun _ => rfl)
  refine stop_call _ cl39 rfl rfl rfl rfl ⟨rfl, rfl⟩ (fun A w hW => eqChanS_c s.h6 t.h6 s.chans t.chans w ⟨hW.get 0 rfl (.R_R (stateO_chans s)), hW.get 1 rfl (.R_R (stateO_chans t)), trivial⟩ (allS_map b6).1 (allS_map b6).2 (allS_map c6).2) ?_
  rintro v L ⟨rfl, rfl⟩
  refine CaseB.mk (fun g6 => ?_) (fun g6 => ?_)
  · have g : ¬ s.pure = t.pure := fun e => by rw [hx] at e; simp [e] at g6
    exact retw [] ⟨by simp [g], rfl⟩ trivial rfl trivial (fun _ => rfl)
  refine stop_call _ cl33 rfl rfl rfl rfl ⟨rfl, rfl⟩ (fun A w hW => eqIntS_c s.h7 t.h7 s.said t.said w ⟨hW.get 0 rfl (.ofR (stateO_said s)), hW.get 1 rfl (.ofR (stateO_said t)), trivial⟩ (Nat.le_trans b7 (by decide)) (Nat.le_trans c7 (by decide))) ?_
  rintro v L ⟨rfl, rfl⟩
  refine CaseB.mk (fun g7 => ?_) (fun g7 => ?_)
  · have g : ¬ s.pure = t.pure := fun e => by rw [hx] at e; simp [e] at g7
    exact retw [] ⟨by simp [g], rfl⟩ trivial rfl trivial (fun _ => rfl)
  refine CaseB.mk (fun g8 => ?_) (fun g8 => ?_)
  · have g : ¬ s.pure = t.pure := fun e => by rw [hx] at e; simp [e] at g8
    exact retw [] ⟨by simp [g], rfl⟩ trivial rfl trivial (fun _ => rfl)
  have g : s.pure = t.pure := hx.2 ⟨by simpa using g0, by simpa using g1, by simpa using g2, by simpa using g3, by simpa using g4, by simpa using g5, by simpa using g6, by simpa using g7, by simpa using g8⟩
  exact retw [] ⟨by simp [g], rfl⟩ trivial rfl trivial (fun _ => rfl)

end Go.Proofs.YtchkcjeeknfchaaGreatDoor

namespace Go.Proofs.YtchkcjeeknfchaaGreatDoor

open Go Go.Sx Go.RowKit

set_option maxRecDepth 100000 in
theorem szOpS_c (i : Sl) (xs : List Op) (left : Int) (w : World) (h : At w [slo i cOp 3 xs]) (h0 : -1 ≤ left) (h1 : left ≤ 1048576) :
    Calls Tryz.prog 55 #[i.val xs.length, .int .i64 left] w (Ret w fun v L => v = .int .i64 (szN xs.length left) ∧ L = []) := by
  obtain ⟨⟨⟨_, b1, b2, _⟩, _⟩, _⟩ := h
  unfold maxLen at b2
  have e : IntKind.i64.wrap (left - (xs.length : Int)) = left - xs.length := e_wrap (by omega) (by omega)
  refine calls2 Tryz.func55 rfl tabOk w _ rfl _ rfl [] trivial trivial _ _ (by decide) ?_
  refine CaseB.mk (fun h => ?_) (fun h => ?_)
  · rw [e] at h
    have h2 : left - (xs.length : Int) < 0 := by simpa using h
    exact retw [] ⟨by rw [szN, if_pos h2], rfl⟩ trivial rfl trivial (fun _ => rfl)
  · rw [e] at h
    have h2 : ¬ left - (xs.length : Int) < 0 := by simpa using h
    refine retw [] ⟨by rw [szN, if_neg h2], rfl⟩ trivial rfl trivial (fun _ => ?_)
    simp only [resV, SV.den, e]

set_option maxRecDepth 100000 in
theorem toOp_c (x : Op) (w : World) : Calls Tryz.prog 102 #[.agg (cOp x).toArray] w (Ret w fun v L => v = .agg (cOp x).toArray ∧ L = []) := by
  refine calls1 Tryz.func102 rfl tabOk w _ rfl _ rfl [] trivial trivial _ (by decide) ?_
  exact retw [] ⟨rfl, rfl⟩ trivial rfl trivial (fun _ => rfl)

set_option maxRecDepth 100000 in
theorem toOpS_c (i : Sl) (xs : List Op) (w : World) (h : At w [slo i cOp 3 xs]) (hb : xs.length ≤ 1048576) :
    Calls Tryz.prog 61 #[i.val xs.length] w (Ret w fun v L => ∃ y : Sl, v = y.val xs.length ∧ L = [own y 108 cOp 3 xs]) := by
  refine calls1 Tryz.func61 rfl tabOk w _ rfl _ rfl _ h ⟨rfl, rfl, trivial⟩ _ (by decide) ?_
  refine stop_make encOp Op0 tabOk rfl rfl rfl rfl rfl (by decide) ⟨rfl, rfl⟩ xs.length rfl (by first | omega | (simp; done) | (simp; omega) | (unfold maxLen; omega) | (unfold maxLen; simp; done) | (unfold maxLen; simp; omega)) (by first | omega | (simp; done) | (simp; omega) | (unfold maxLen; omega) | (unfold maxLen; simp; done) | (unfold maxLen; simp; omega)) (fun y => ?_)
  refine LoopW.mk ⟨{ k : Nat // k ≤ xs.length },
    fun k => .mk [(0, .v (i.val xs.length)), (3, .v (y.val (xs.take k.1 ++ List.replicate (xs.length - k.1) Op0).length)), (4, .v (.int .i64 (k.1 : Int)))] 0 0 [] [] [own y 108 cOp 3 (xs.take k.1 ++ List.replicate (xs.length - k.1) Op0), slo i cOp 3 xs],
    fun k => xs.length - k.1, ⟨0, Nat.zero_le _⟩, ?_, ?_⟩
  · refine weak_mk [0, 1] ?_ ?_ ?_ ?_ ?_ rfl rfl
    · repeat (first | exact trivial | refine ⟨⟨_, rfl, (by first | exact .of rfl | exact .lit rfl | exact .of (by first | ((simp))) | exact .lit (by first | ((simp)))), (by first | exact trivial | exact Nat.le_of_ble_eq_true rfl | exact small1 rfl)⟩, ?_⟩)
    · repeat (first | exact trivial | refine ⟨⟨(by first | exact .head _ | exact .tail _ (.head _) | exact .tail _ (.tail _ (.head _)) | exact .tail _ (.tail _ (.tail _ (.head _))) | exact .tail _ (.tail _ (.tail _ (.tail _ (.head _)))) | exact .tail _ (.tail _ (.tail _ (.tail _ (.tail _ (.head _))))) | exact .tail _ (.tail _ (.tail _ (.tail _ (.tail _ (.tail _ (.head _)))))) | exact .tail _ (.tail _ (.tail _ (.tail _ (.tail _ (.tail _ (.tail _ (.head _))))))) | exact .tail _ (.tail _ (.tail _ (.tail _ (.tail _ (.tail _ (.tail _ (.tail _ (.head _)))))))) | exact .tail _ (.tail _ (.tail _ (.tail _ (.tail _ (.tail _ (.tail _ (.tail _ (.tail _ (.head _)))))))))), Nat.le_of_ble_eq_true rfl⟩, ?_⟩)
    · repeat (first | exact trivial | refine ⟨⟨_, rfl, (by first | exact .of rfl | exact .lit rfl | exact .of (by first | ((simp))) | exact .lit (by first | ((simp)))), (by first | exact trivial | exact Nat.le_of_ble_eq_true rfl | exact small1 rfl)⟩, ?_⟩)
    · repeat (first | exact trivial | refine ⟨⟨_, rfl⟩, ?_⟩)
    · repeat (first | exact trivial | refine ⟨.inl ⟨_, rfl, (by first | rfl | ((simp)))⟩, ?_⟩ | refine ⟨.inr ⟨Nat.le_of_ble_eq_true rfl, rfl, rfl, rfl, rfl⟩, ?_⟩)
  · rintro ⟨k, hk⟩
    refine CaseB.mk (fun h => ?_) (fun h => ?_)
    · have hlt : k < xs.length := by simpa using h
      have hT : (xs.take k ++ List.replicate (xs.length - k) Op0).set k xs[k] = xs.take (k + 1) ++ List.replicate (xs.length - (k + 1)) Op0 := by
        rw [List.set_append_right _ _ (by simp; omega), List.take_succ_eq_append_getElem hlt, show k - (List.take k xs).length = 0 by simp; omega, show xs.length - k = (xs.length - (k + 1)) + 1 by omega, List.replicate_succ, List.append_assoc]
        rfl
      refine stop_idx encOp tabOk rfl rfl rfl rfl rfl ⟨rfl, rfl⟩ (by first | exact rdAt 0 rfl | exact rdOwnAt 0 rfl | exact rdAt 1 rfl | exact rdOwnAt 1 rfl | exact rdAt 2 rfl | exact rdOwnAt 2 rfl | exact rdAt 3 rfl | exact rdOwnAt 3 rfl | exact rdAt 4 rfl | exact rdOwnAt 4 rfl | exact rdAt 5 rfl | exact rdOwnAt 5 rfl | exact rdAt 6 rfl | exact rdOwnAt 6 rfl | exact rdAt 7 rfl | exact rdOwnAt 7 rfl | exact rdAt 8 rfl | exact rdOwnAt 8 rfl | exact rdAt 9 rfl | exact rdOwnAt 9 rfl | exact rdAt 10 rfl | exact rdOwnAt 10 rfl | exact rdAt 11 rfl | exact rdOwnAt 11 rfl | exact rdAt 12 rfl | exact rdOwnAt 12 rfl | exact rdAt 13 rfl | exact rdOwnAt 13 rfl | exact rdAt 14 rfl | exact rdOwnAt 14 rfl | exact rdAt 15 rfl | exact rdOwnAt 15 rfl | exact rdAt 16 rfl | exact rdOwnAt 16 rfl | exact rdAt 17 rfl | exact rdOwnAt 17 rfl | exact rdAt 18 rfl | exact rdOwnAt 18 rfl | exact rdAt 19 rfl | exact rdOwnAt 19 rfl | exact rdAt 20 rfl | exact rdOwnAt 20 rfl | exact rdAt 21 rfl | exact rdOwnAt 21 rfl | exact rdAt 22 rfl | exact rdOwnAt 22 rfl | exact rdAt 23 rfl | exact rdOwnAt 23 rfl) k rfl (by first | omega | (simp; done) | (simp; omega) | (unfold maxLen; omega) | (unfold maxLen; simp; done) | (unfold maxLen; simp; omega)) (fun ad => ?_)
      refine stop_call _ cl102 rfl rfl rfl rfl ⟨rfl, rfl⟩ (fun A w hW => toOp_c _ w) ?_
      rintro v L ⟨rfl, rfl⟩
      refine stop_idxW encOp 0 tabOk rfl rfl rfl rfl rfl ⟨rfl, rfl⟩ rfl (by first | rfl | (simp; done)) k rfl (by first | omega | (simp; done) | (simp; omega) | (unfold maxLen; omega) | (unfold maxLen; simp; done) | (unfold maxLen; simp; omega)) (fun g hg => ?_)
      refine stop_storeW encOp 0 tabOk rfl rfl rfl rfl rfl rfl rfl rfl hg k 0 (xs[k]) rfl (by first | omega | (simp; done) | (simp; omega) | (unfold maxLen; omega) | (unfold maxLen; simp; done) | (unfold maxLen; simp; omega)) rfl (cOp xs[k]) (fun _ => rfl) rfl ?_
      have hw := e_succ k _ hlt (by omega)
      refine ⟨⟨k + 1, by omega⟩, ?_, by simp; omega⟩
      refine weak_mk [0, 1] ?_ ?_ ?_ ?_ ?_ rfl rfl
      · repeat (first | exact trivial | refine ⟨⟨_, rfl, (by first | exact .of rfl | exact .lit rfl | exact .of (by first | ((first | (rw [hT]; done) | (simp only; done) | exact congrArg (fun z => SV.v (Value.int .i64 z)) hw | (rw [← hT]; simp)))) | exact .lit (by first | ((first | (rw [hT]; done) | (simp only [hT]; done) | exact congrArg (fun z => SV.v (Value.int .i64 z)) hw | (rw [← hT]; simp))))), (by first | exact trivial | exact Nat.le_of_ble_eq_true rfl | exact small1 rfl)⟩, ?_⟩)
      · repeat (first | exact trivial | refine ⟨⟨(by first | exact .head _ | exact .tail _ (.head _) | exact .tail _ (.tail _ (.head _)) | exact .tail _ (.tail _ (.tail _ (.head _))) | exact .tail _ (.tail _ (.tail _ (.tail _ (.head _)))) | exact .tail _ (.tail _ (.tail _ (.tail _ (.tail _ (.head _))))) | exact .tail _ (.tail _ (.tail _ (.tail _ (.tail _ (.tail _ (.head _)))))) | exact .tail _ (.tail _ (.tail _ (.tail _ (.tail _ (.tail _ (.tail _ (.head _))))))) | exact .tail _ (.tail _ (.tail _ (.tail _ (.tail _ (.tail _ (.tail _ (.tail _ (.head _)))))))) | exact .tail _ (.tail _ (.tail _ (.tail _ (.tail _ (.tail _ (.tail _ (.tail _ (.tail _ (.head _)))))))))), Nat.le_of_ble_eq_true rfl⟩, ?_⟩)
      · repeat (first | exact trivial | refine ⟨⟨_, rfl, (by first | exact .of rfl | exact .lit rfl | exact .of (by first | ((first | (rw [hT]; done) | (simp only [hT]; done) | exact congrArg (fun z => SV.v (Value.int .i64 z)) hw | (rw [← hT]; simp)))) | exact .lit (by first | ((first | (rw [hT]; done) | (simp only [hT]; done) | exact congrArg (fun z => SV.v (Value.int .i64 z)) hw | (rw [← hT]; simp))))), (by first | exact trivial | exact Nat.le_of_ble_eq_true rfl | exact small1 rfl)⟩, ?_⟩)
      · repeat (first | exact trivial | refine ⟨⟨_, rfl⟩, ?_⟩)
      · repeat (first | exact trivial | refine ⟨.inl ⟨_, rfl, (by first | rfl | ((first | (rw [hT]; done) | (simp only [hT]; done) | exact congrArg (fun z => SV.v (Value.int .i64 z)) hw | (rw [← hT]; simp))))⟩, ?_⟩ | refine ⟨.inr ⟨Nat.le_of_ble_eq_true rfl, rfl, rfl, rfl, rfl⟩, ?_⟩)
    · have hge : xs.length ≤ k := by simpa using h
      have hT : xs.take k ++ List.replicate (xs.length - k) Op0 = xs := by rw [List.take_of_length_le hge, show xs.length - k = 0 by omega]; simp
      exact retw [0] ⟨y, rfl, rfl⟩ ⟨.inl ⟨_, rfl, (by first | rfl | ((simp only [hT])))⟩, trivial⟩ rfl ⟨rfl, trivial⟩ (fun _ => (by first | rfl | ((simp only [hT, resV, SV.den]))))

set_option maxRecDepth 100000 in
theorem eqOp_c (x y : Op) (w : World) : Calls Tryz.prog 108 #[.agg (cOp x).toArray, .agg (cOp y).toArray] w (Ret w fun v L => v = .bool (decide (x = y)) ∧ L = []) := by
  have hx : ∀ {a b : Op}, a = b ↔ a.kind = b.kind ∧ a.on = b.on ∧ a.arg = b.arg := fun {a b} => ⟨fun h => by subst h; exact ⟨rfl, rfl, rfl⟩, fun h => by cases a; cases b; simp_all⟩
  refine calls2 Tryz.func108 rfl tabOk w _ rfl _ rfl [] trivial trivial _ _ (by decide) ?_
  refine CaseB.mk (fun h0 => ?_) (fun h0 => ?_)
  · have g : ¬ x = y := fun e => by subst e; simp at h0
    exact retw [] ⟨by simp [g], rfl⟩ trivial rfl trivial (fun _ => rfl)
  refine CaseB.mk (fun h1 => ?_) (fun h1 => ?_)
  · have g : ¬ x = y := fun e => by subst e; simp at h1
    exact retw [] ⟨by simp [g], rfl⟩ trivial rfl trivial (fun _ => rfl)
  refine CaseB.mk (fun h2 => ?_) (fun h2 => ?_)
  · have g : ¬ x = y := fun e => by subst e; simp at h2
    exact retw [] ⟨by simp [g], rfl⟩ trivial rfl trivial (fun _ => rfl)
  · have g : x = y := hx.2 ⟨by simpa using h0, by simpa using h1, by simpa using h2⟩
    exact retw [] ⟨by simp [g], rfl⟩ trivial rfl trivial (fun _ => rfl)

set_option maxRecDepth 100000 in
theorem eqOpS_c (i j : Sl) (xs ys : List Op) (w : World) (h : At w [slo i cOp 3 xs, slo j cOp 3 ys]) (hb : xs.length ≤ 4294967296) (hb2 : ys.length ≤ 4294967296) :
    Calls Tryz.prog 71 #[i.val xs.length, j.val ys.length] w (Ret w fun v L => v = .bool (decide (xs = ys)) ∧ L = []) := by
  refine calls2 Tryz.func71 rfl tabOk w _ rfl _ rfl _ h ⟨rfl, rfl, rfl, rfl, trivial⟩ _ _ (by decide) ?_
  refine CaseB.mk (fun h => ?_) (fun h => ?_)
  · have hne : xs ≠ ys := by rintro rfl; simp at h
    refine retw [] ⟨?_, rfl⟩ trivial rfl trivial (fun _ => rfl)
    simp [hne]
  · have hl : xs.length = ys.length := by simp at h; omega
    refine LoopW.mk ⟨{ k : Nat // k ≤ xs.length ∧ xs.take k = ys.take k },
      fun p => .mk [(0, .v (i.val xs.length)), (1, .v (j.val ys.length)), (5, .v (.int .i64 p.1))] 0 0 [] [] [slo i cOp 3 xs, slo j cOp 3 ys],
      fun p => xs.length - p.1, ⟨0, Nat.zero_le _, rfl⟩, ?_, ?_⟩
    · refine weak_mk [0, 1] ?_ ?_ ?_ ?_ ?_ rfl rfl
      · repeat (first | exact trivial | refine ⟨⟨_, rfl, (by first | exact .of rfl | exact .lit rfl | exact .of (by first | (rfl)) | exact .lit (by first | (rfl))), (by first | exact trivial | exact Nat.le_of_ble_eq_true rfl | exact small1 rfl)⟩, ?_⟩)
      · repeat (first | exact trivial | refine ⟨⟨(by first | exact .head _ | exact .tail _ (.head _) | exact .tail _ (.tail _ (.head _)) | exact .tail _ (.tail _ (.tail _ (.head _))) | exact .tail _ (.tail _ (.tail _ (.tail _ (.head _)))) | exact .tail _ (.tail _ (.tail _ (.tail _ (.tail _ (.head _))))) | exact .tail _ (.tail _ (.tail _ (.tail _ (.tail _ (.tail _ (.head _)))))) | exact .tail _ (.tail _ (.tail _ (.tail _ (.tail _ (.tail _ (.tail _ (.head _))))))) | exact .tail _ (.tail _ (.tail _ (.tail _ (.tail _ (.tail _ (.tail _ (.tail _ (.head _)))))))) | exact .tail _ (.tail _ (.tail _ (.tail _ (.tail _ (.tail _ (.tail _ (.tail _ (.tail _ (.head _)))))))))), Nat.le_of_ble_eq_true rfl⟩, ?_⟩)
      · repeat (first | exact trivial | refine ⟨⟨_, rfl, (by first | exact .of rfl | exact .lit rfl | exact .of (by first | (rfl)) | exact .lit (by first | (rfl))), (by first | exact trivial | exact Nat.le_of_ble_eq_true rfl | exact small1 rfl)⟩, ?_⟩)
      · repeat (first | exact trivial | refine ⟨⟨_, rfl⟩, ?_⟩)
      · repeat (first | exact trivial | refine ⟨.inl ⟨_, rfl, (by first | rfl | (rfl))⟩, ?_⟩ | refine ⟨.inr ⟨Nat.le_of_ble_eq_true rfl, rfl, rfl, rfl, rfl⟩, ?_⟩)
    · rintro ⟨k, hk, he⟩
      refine CaseB.mk (fun h => ?_) (fun h => ?_)
      · have hlt : k < xs.length := by simpa using h
        have hlt2 : k < ys.length := by omega
        obtain ⟨q1, q2⟩ := e_take he hlt hlt2
        refine draw_start tabOk (by kernel_rfl) (by kernel_rfl) (by kernel_rfl) 200 [] [0, 1] [_, _] trivial trivial ⟨rfl, rfl, trivial⟩ rfl ?_
        refine d_idx (ti := tiOf tab) encOp tabOk rfl rfl rfl rfl rfl ⟨rfl, rfl⟩ (by first | exact rdAt 0 rfl | exact rdOwnAt 0 rfl | exact rdAt 1 rfl | exact rdOwnAt 1 rfl | exact rdAt 2 rfl | exact rdOwnAt 2 rfl | exact rdAt 3 rfl | exact rdOwnAt 3 rfl | exact rdAt 4 rfl | exact rdOwnAt 4 rfl | exact rdAt 5 rfl | exact rdOwnAt 5 rfl | exact rdAt 6 rfl | exact rdOwnAt 6 rfl | exact rdAt 7 rfl | exact rdOwnAt 7 rfl | exact rdAt 8 rfl | exact rdOwnAt 8 rfl | exact rdAt 9 rfl | exact rdOwnAt 9 rfl | exact rdAt 10 rfl | exact rdOwnAt 10 rfl | exact rdAt 11 rfl | exact rdOwnAt 11 rfl | exact rdAt 12 rfl | exact rdOwnAt 12 rfl | exact rdAt 13 rfl | exact rdOwnAt 13 rfl | exact rdAt 14 rfl | exact rdOwnAt 14 rfl | exact rdAt 15 rfl | exact rdOwnAt 15 rfl | exact rdAt 16 rfl | exact rdOwnAt 16 rfl | exact rdAt 17 rfl | exact rdOwnAt 17 rfl | exact rdAt 18 rfl | exact rdOwnAt 18 rfl | exact rdAt 19 rfl | exact rdOwnAt 19 rfl | exact rdAt 20 rfl | exact rdOwnAt 20 rfl | exact rdAt 21 rfl | exact rdOwnAt 21 rfl | exact rdAt 22 rfl | exact rdOwnAt 22 rfl | exact rdAt 23 rfl | exact rdOwnAt 23 rfl) k rfl (by first | omega | (simp; done) | (simp; omega) | (unfold maxLen; omega) | (unfold maxLen; simp; done) | (unfold maxLen; simp; omega)) (fun ad => ?_)
        refine d_idx (ti := tiOf tab) encOp tabOk rfl rfl rfl rfl rfl ⟨rfl, rfl⟩ (by first | exact rdAt 0 rfl | exact rdOwnAt 0 rfl | exact rdAt 1 rfl | exact rdOwnAt 1 rfl | exact rdAt 2 rfl | exact rdOwnAt 2 rfl | exact rdAt 3 rfl | exact rdOwnAt 3 rfl | exact rdAt 4 rfl | exact rdOwnAt 4 rfl | exact rdAt 5 rfl | exact rdOwnAt 5 rfl | exact rdAt 6 rfl | exact rdOwnAt 6 rfl | exact rdAt 7 rfl | exact rdOwnAt 7 rfl | exact rdAt 8 rfl | exact rdOwnAt 8 rfl | exact rdAt 9 rfl | exact rdOwnAt 9 rfl | exact rdAt 10 rfl | exact rdOwnAt 10 rfl | exact rdAt 11 rfl | exact rdOwnAt 11 rfl | exact rdAt 12 rfl | exact rdOwnAt 12 rfl | exact rdAt 13 rfl | exact rdOwnAt 13 rfl | exact rdAt 14 rfl | exact rdOwnAt 14 rfl | exact rdAt 15 rfl | exact rdOwnAt 15 rfl | exact rdAt 16 rfl | exact rdOwnAt 16 rfl | exact rdAt 17 rfl | exact rdOwnAt 17 rfl | exact rdAt 18 rfl | exact rdOwnAt 18 rfl | exact rdAt 19 rfl | exact rdOwnAt 19 rfl | exact rdAt 20 rfl | exact rdOwnAt 20 rfl | exact rdAt 21 rfl | exact rdOwnAt 21 rfl | exact rdAt 22 rfl | exact rdOwnAt 22 rfl | exact rdAt 23 rfl | exact rdOwnAt 23 rfl) k rfl (by first | omega | (simp; done) | (simp; omega) | (unfold maxLen; omega) | (unfold maxLen; simp; done) | (unfold maxLen; simp; omega)) (fun ad2 => ?_)
        refine d_call _ cl108 rfl rfl rfl rfl ⟨rfl, rfl⟩ (fun A w hW => eqOp_c _ _ w) ?_
        rintro v L ⟨rfl, rfl⟩
        refine CaseB.mk (fun h => ?_) (fun h => ?_)
        · have hne := q2 (by simpa using h)
          refine retw [] ⟨?_, rfl⟩ trivial rfl trivial (fun _ => rfl)
          simp [hne]
        · have heq := q1 (by simpa using h)
          have hw := e_succ k _ hlt (by omega)
          refine ⟨⟨k + 1, by omega, heq⟩, ?_, by simp; omega⟩
          refine weak_mk [0, 1] ?_ ?_ ?_ ?_ ?_ rfl rfl
          · repeat (first | exact trivial | refine ⟨⟨_, rfl, (by first | exact .of rfl | exact .lit rfl | exact .of (by first | ((exact congrArg (fun z => SV.v (Value.int .i64 z)) hw))) | exact .lit (by first | ((exact congrArg (fun z => SV.v (Value.int .i64 z)) hw)))), (by first | exact trivial | exact Nat.le_of_ble_eq_true rfl | exact small1 rfl)⟩, ?_⟩)
          · repeat (first | exact trivial | refine ⟨⟨(by first | exact .head _ | exact .tail _ (.head _) | exact .tail _ (.tail _ (.head _)) | exact .tail _ (.tail _ (.tail _ (.head _))) | exact .tail _ (.tail _ (.tail _ (.tail _ (.head _)))) | exact .tail _ (.tail _ (.tail _ (.tail _ (.tail _ (.head _))))) | exact .tail _ (.tail _ (.tail _ (.tail _ (.tail _ (.tail _ (.head _)))))) | exact .tail _ (.tail _ (.tail _ (.tail _ (.tail _ (.tail _ (.tail _ (.head _))))))) | exact .tail _ (.tail _ (.tail _ (.tail _ (.tail _ (.tail _ (.tail _ (.tail _ (.head _)))))))) | exact .tail _ (.tail _ (.tail _ (.tail _ (.tail _ (.tail _ (.tail _ (.tail _ (.tail _ (.head _)))))))))), Nat.le_of_ble_eq_true rfl⟩, ?_⟩)
          · repeat (first | exact trivial | refine ⟨⟨_, rfl, (by first | exact .of rfl | exact .lit rfl | exact .of (by first | ((exact congrArg (fun z => SV.v (Value.int .i64 z)) hw))) | exact .lit (by first | ((exact congrArg (fun z => SV.v (Value.int .i64 z)) hw)))), (by first | exact trivial | exact Nat.le_of_ble_eq_true rfl | exact small1 rfl)⟩, ?_⟩)
          · repeat (first | exact trivial | refine ⟨⟨_, rfl⟩, ?_⟩)
          · repeat (first | exact trivial | refine ⟨.inl ⟨_, rfl, (by first | rfl | ((exact congrArg (fun z => SV.v (Value.int .i64 z)) hw)))⟩, ?_⟩ | refine ⟨.inr ⟨Nat.le_of_ble_eq_true rfl, rfl, rfl, rfl, rfl⟩, ?_⟩)
      · have hge : xs.length ≤ k := by simpa using h
        have heq : xs = ys := by rw [List.take_of_length_le hge, List.take_of_length_le (by omega)] at he; exact he
        refine retw [] ⟨?_, rfl⟩ trivial rfl trivial (fun _ => rfl)
        simp [heq]

end Go.Proofs.YtchkcjeeknfchaaGreatDoor

namespace Go.Proofs.YtchkcjeeknfchaaGreatDoor

open Go Go.Sx Go.RowKit

def OpS.small20 (m : List Op) : Prop := m.length ≤ 1048576

def szOpSM (m : List Op) (left : Int) : Int := szN m.length left

theorem szOpSM_gen (m : List Op) (l : Int) (hl : l ≤ 1048576) (h : ¬ szOpSM m l < 0) : OpS.small20 m ∧ szOpSM m l ≤ l := szN_gen hl h

end Go.Proofs.YtchkcjeeknfchaaGreatDoor

namespace Go.Proofs.YtchkcjeeknfchaaGreatDoor

open Go Go.Sx Go.RowKit

set_option maxRecDepth 100000 in
theorem szOpSS_c (h : Sl) (xs : List OpSH) (left : Int) (w : World) (hh : At w [fR (threadsO h xs)]) (h0 : -1 ≤ left) (h1 : left ≤ 1048576) :
    Calls Tryz.prog 17 #[h.val xs.length, .int .i64 left] w (Ret w fun v L => v = .int .i64 (szAll szOpSM (xs.map (·.m)) left) ∧ L = []) := by
  have hrd := (Rd.ofR (nest_h (xs := xs))).p w hh.1.1
  obtain ⟨_, b1, b2, _⟩ := hrd
  unfold maxLen at b2
  have e : IntKind.i64.wrap (left - (xs.length : Int)) = left - xs.length := e_wrap (by omega) (by omega)
  refine calls2 Tryz.func17 rfl tabOk w _ rfl _ rfl _ hh ⟨rfl, rfl, trivial⟩ _ _ (by decide) ?_
  refine CaseB.mk (fun g => ?_) (fun g => ?_)
  · rw [e] at g
    have g2 : left - (xs.length : Int) < 0 := by simpa using g
    exact retw [] ⟨by simp [szAll, g2], rfl⟩ trivial rfl trivial (fun _ => rfl)
  · rw [e] at g
    have g2 : ¬ left - (xs.length : Int) < 0 := by simpa using g
    refine LoopW.mk ⟨{ p : Nat × Int // p.1 ≤ xs.length ∧ szList szOpSM ((xs.map (·.m)).drop p.1) p.2 = szAll szOpSM (xs.map (·.m)) left ∧ -1 ≤ p.2 ∧ p.2 ≤ 1048576 },
      fun p => .mk [(0, .v (h.val xs.length)), (1, .v (.int .i64 p.1.2)), (5, .v (.int .i64 (p.1.1 : Int)))] 0 0 [] [] [fR (threadsO h xs)],
      fun p => xs.length - p.1.1, ⟨(0, left - xs.length), Nat.zero_le _, by simp [szAll, g2], by omega, by omega⟩, ?_, ?_⟩
    · refine weak_mk [0] ?_ ?_ ?_ ?_ ?_ rfl rfl
      · repeat (first | exact trivial | refine ⟨⟨_, rfl, (by first | exact .of rfl | exact .lit rfl | exact .of (by first | ((simp only [e]))) | exact .lit (by first | ((simp only [e])))), (by first | exact trivial | exact Nat.le_of_ble_eq_true rfl | exact small1 rfl)⟩, ?_⟩)
      · repeat (first | exact trivial | refine ⟨⟨(by first | exact .head _ | exact .tail _ (.head _) | exact .tail _ (.tail _ (.head _)) | exact .tail _ (.tail _ (.tail _ (.head _))) | exact .tail _ (.tail _ (.tail _ (.tail _ (.head _)))) | exact .tail _ (.tail _ (.tail _ (.tail _ (.tail _ (.head _))))) | exact .tail _ (.tail _ (.tail _ (.tail _ (.tail _ (.tail _ (.head _)))))) | exact .tail _ (.tail _ (.tail _ (.tail _ (.tail _ (.tail _ (.tail _ (.head _))))))) | exact .tail _ (.tail _ (.tail _ (.tail _ (.tail _ (.tail _ (.tail _ (.tail _ (.head _)))))))) | exact .tail _ (.tail _ (.tail _ (.tail _ (.tail _ (.tail _ (.tail _ (.tail _ (.tail _ (.head _)))))))))), Nat.le_of_ble_eq_true rfl⟩, ?_⟩)
      · repeat (first | exact trivial | refine ⟨⟨_, rfl, (by first | exact .of rfl | exact .lit rfl | exact .of (by first | ((simp only [e]))) | exact .lit (by first | ((simp only [e])))), (by first | exact trivial | exact Nat.le_of_ble_eq_true rfl | exact small1 rfl)⟩, ?_⟩)
      · repeat (first | exact trivial | refine ⟨⟨_, rfl⟩, ?_⟩)
      · repeat (first | exact trivial | refine ⟨.inl ⟨_, rfl, (by first | rfl | ((simp only [e])))⟩, ?_⟩ | refine ⟨.inr ⟨Nat.le_of_ble_eq_true rfl, rfl, rfl, rfl, rfl⟩, ?_⟩)
    · rintro ⟨⟨k, l⟩, hk, hl, hl0, hl1⟩
      simp only at hk hl hl0 hl1
      refine CaseB.mk (fun g3 => ?_) (fun g3 => ?_)
      · have hlt : k < xs.length := by simpa using g3
        rw [List.drop_eq_getElem_cons (by simpa using hlt)] at hl
        simp only [szList, List.getElem_map] at hl
        refine stop_idx encOpSH tabOk rfl rfl rfl rfl rfl ⟨rfl, rfl⟩ (rdVia 0 rfl (.ofR nest_h)) k rfl (by first | omega | (simp; done) | (simp; omega) | (unfold maxLen; omega) | (unfold maxLen; simp; done) | (unfold maxLen; simp; omega)) (fun ad => ?_)
        refine stop_call _ cl55 rfl rfl rfl rfl ⟨rfl, rfl⟩ (fun A w hW => szOpS_c _ _ _ w ⟨hW.get 0 rfl (.ofR (threadsO_0 h xs k hlt)), trivial⟩ hl0 hl1) ?_
        rintro v L ⟨rfl, rfl⟩
        refine CaseB.mk (fun g4 => ?_) (fun g4 => ?_)
        · have q : szOpSM xs[k].m l < 0 := by unfold szOpSM; simpa using g4
          rw [if_pos q] at hl
          exact retw [] ⟨by rw [← hl], rfl⟩ trivial rfl trivial (fun _ => rfl)
        · have q : ¬ szOpSM xs[k].m l < 0 := by unfold szOpSM; simpa using g4
          rw [if_neg q] at hl
          have q2 := (szOpSM_gen xs[k].m l hl1 q).2
          have hw := e_succ k _ hlt (by omega)
          refine ⟨⟨(k + 1, szOpSM xs[k].m l), hlt, hl, by omega, by omega⟩, ?_, by simp only; omega⟩
          refine weak_mk [0] ?_ ?_ ?_ ?_ ?_ rfl rfl
          · repeat (first | exact trivial | refine ⟨⟨_, rfl, (by first | exact .of rfl | exact .lit rfl | exact .of (by first | ((exact congrArg (fun z => SV.v (Value.int .i64 z)) hw))) | exact .lit (by first | ((exact congrArg (fun z => SV.v (Value.int .i64 z)) hw)))), (by first | exact trivial | exact Nat.le_of_ble_eq_true rfl | exact small1 rfl)⟩, ?_⟩)
          · repeat (first | exact trivial | refine ⟨⟨(by first | exact .head _ | exact .tail _ (.head _) | exact .tail _ (.tail _ (.head _)) | exact .tail _ (.tail _ (.tail _ (.head _))) | exact .tail _ (.tail _ (.tail _ (.tail _ (.head _)))) | exact .tail _ (.tail _ (.tail _ (.tail _ (.tail _ (.head _))))) | exact .tail _ (.tail _ (.tail _ (.tail _ (.tail _ (.tail _ (.head _)))))) | exact .tail _ (.tail _ (.tail _ (.tail _ (.tail _ (.tail _ (.tail _ (.head _))))))) | exact .tail _ (.tail _ (.tail _ (.tail _ (.tail _ (.tail _ (.tail _ (.tail _ (.head _)))))))) | exact .tail _ (.tail _ (.tail _ (.tail _ (.tail _ (.tail _ (.tail _ (.tail _ (.tail _ (.head _)))))))))), Nat.le_of_ble_eq_true rfl⟩, ?_⟩)
          · repeat (first | exact trivial | refine ⟨⟨_, rfl, (by first | exact .of rfl | exact .lit rfl | exact .of (by first | ((exact congrArg (fun z => SV.v (Value.int .i64 z)) hw))) | exact .lit (by first | ((exact congrArg (fun z => SV.v (Value.int .i64 z)) hw)))), (by first | exact trivial | exact Nat.le_of_ble_eq_true rfl | exact small1 rfl)⟩, ?_⟩)
          · repeat (first | exact trivial | refine ⟨⟨_, rfl⟩, ?_⟩)
          · repeat (first | exact trivial | refine ⟨.inl ⟨_, rfl, (by first | rfl | ((exact congrArg (fun z => SV.v (Value.int .i64 z)) hw)))⟩, ?_⟩ | refine ⟨.inr ⟨Nat.le_of_ble_eq_true rfl, rfl, rfl, rfl, rfl⟩, ?_⟩)
      · have hge : xs.length ≤ k := by simpa using g3
        rw [List.drop_eq_nil_of_le (by simpa using hge)] at hl
        exact retw [] ⟨congrArg (Value.int .i64) hl, rfl⟩ trivial rfl trivial (fun _ => rfl)

def OpSH0 : OpSH := ⟨[], ⟨none, 0⟩⟩

set_option maxRecDepth 100000 in
theorem toOpSS_c (h : Sl) (xs : List OpSH) (w : World) (hh : At w [fR (threadsO h xs)]) (hl : xs.length ≤ 1048576) (hb : ∀ x ∈ xs, OpS.small20 x.m) :
    Calls Tryz.prog 25 #[h.val xs.length] w (Ret w fun v L => ∃ (y : Sl) (ys : List OpSH), v = y.val ys.length ∧ ys.map (·.m) = xs.map (·.m) ∧ L = [fO (threadsO y ys)]) := by
  refine calls1 Tryz.func25 rfl tabOk w _ rfl _ rfl _ hh ⟨rfl, rfl, trivial⟩ _ (by decide) ?_
  refine stop_make encOpSH OpSH0 tabOk rfl rfl rfl rfl rfl (by decide) ⟨rfl, rfl⟩ xs.length rfl (by first | omega | (simp; done) | (simp; omega) | (unfold maxLen; omega) | (unfold maxLen; simp; done) | (unfold maxLen; simp; omega)) (by first | omega | (simp; done) | (simp; omega) | (unfold maxLen; omega) | (unfold maxLen; simp; done) | (unfold maxLen; simp; omega)) (fun y => ?_)
  refine LoopW.mk ⟨{ p : Nat × List OpSH // p.1 ≤ xs.length ∧ p.2.map (·.m) = (xs.map (·.m)).take p.1 },
    fun p => .mk [(0, .v (h.val xs.length)), (3, .v (y.val (p.1.2 ++ List.replicate (xs.length - p.1.1) OpSH0).length)), (4, .v (.int .i64 (p.1.1 : Int)))] 0 0 [] [] [own y 105 cOpSH 1 (p.1.2 ++ List.replicate (xs.length - p.1.1) OpSH0), fO (p.1.2.flatMap opSO), fR (threadsO h xs)],
    fun p => xs.length - p.1.1, ⟨(0, []), Nat.zero_le _, by simp⟩, ?_, ?_⟩
  · refine weak_shift (.joinO [] (Gs := []) trivial rfl (.refl _)) ?_
    refine weak_mk [1, 0, 2] ?_ ?_ ?_ ?_ ?_ rfl rfl
    · repeat (first | exact trivial | refine ⟨⟨_, rfl, (by first | exact .of rfl | exact .lit rfl | exact .of (by first | ((simp))) | exact .lit (by first | ((simp)))), (by first | exact trivial | exact Nat.le_of_ble_eq_true rfl | exact small1 rfl)⟩, ?_⟩)
    · repeat (first | exact trivial | refine ⟨⟨(by first | exact .head _ | exact .tail _ (.head _) | exact .tail _ (.tail _ (.head _)) | exact .tail _ (.tail _ (.tail _ (.head _))) | exact .tail _ (.tail _ (.tail _ (.tail _ (.head _)))) | exact .tail _ (.tail _ (.tail _ (.tail _ (.tail _ (.head _))))) | exact .tail _ (.tail _ (.tail _ (.tail _ (.tail _ (.tail _ (.head _)))))) | exact .tail _ (.tail _ (.tail _ (.tail _ (.tail _ (.tail _ (.tail _ (.head _))))))) | exact .tail _ (.tail _ (.tail _ (.tail _ (.tail _ (.tail _ (.tail _ (.tail _ (.head _)))))))) | exact .tail _ (.tail _ (.tail _ (.tail _ (.tail _ (.tail _ (.tail _ (.tail _ (.tail _ (.head _)))))))))), Nat.le_of_ble_eq_true rfl⟩, ?_⟩)
    · repeat (first | exact trivial | refine ⟨⟨_, rfl, (by first | exact .of rfl | exact .lit rfl | exact .of (by first | ((simp))) | exact .lit (by first | ((simp)))), (by first | exact trivial | exact Nat.le_of_ble_eq_true rfl | exact small1 rfl)⟩, ?_⟩)
    · repeat (first | exact trivial | refine ⟨⟨_, rfl⟩, ?_⟩)
    · repeat (first | exact trivial | refine ⟨.inl ⟨_, rfl, (by first | rfl | ((simp)))⟩, ?_⟩ | refine ⟨.inr ⟨Nat.le_of_ble_eq_true rfl, rfl, rfl, rfl, rfl⟩, ?_⟩)
  · rintro ⟨⟨k, ys⟩, hk, hy⟩
    simp only at hk hy
    have hyl : ys.length = k := by have := congrArg List.length hy; simp at this; omega
    refine CaseB.mk (fun g => ?_) (fun g => ?_)
    · have hlt : k < xs.length := by simpa using g
      have hlt2 : k < (ys ++ List.replicate (xs.length - k) OpSH0).length := by simp; omega
      refine stop_idx encOpSH tabOk rfl rfl rfl rfl rfl ⟨rfl, rfl⟩ (rdVia 2 rfl (.ofR nest_h)) k rfl (by first | omega | (simp; done) | (simp; omega) | (unfold maxLen; omega) | (unfold maxLen; simp; done) | (unfold maxLen; simp; omega)) (fun ad => ?_)
      refine stop_call _ cl61 rfl rfl rfl rfl ⟨rfl, rfl⟩ (fun A w hW => toOpS_c _ _ w ⟨hW.get 2 rfl (.ofR (threadsO_0 h xs k hlt)), trivial⟩ (hb _ (List.getElem_mem hlt))) ?_
      rintro v L ⟨y0, rfl, rfl⟩
      generalize hx : (⟨xs[k].m, y0⟩ : OpSH) = x
      have hxm : x.m = xs[k].m := by rw [← hx]
      have hT : (ys ++ List.replicate (xs.length - k) OpSH0).set k x = (ys ++ [x]) ++ List.replicate (xs.length - (k + 1)) OpSH0 := by
        rw [List.set_append_right _ _ (by omega), show k - ys.length = 0 by omega, show xs.length - k = (xs.length - (k + 1)) + 1 by omega, List.replicate_succ, List.append_assoc]
        rfl
      generalize hq : (ys ++ List.replicate (xs.length - k) OpSH0) = Q at hT hlt2
      refine stop_idxW encOpSH 1 tabOk rfl rfl rfl rfl rfl ⟨rfl, rfl⟩ rfl (by first | rfl | (simp; done)) k rfl hlt2 (fun g1 hg1 => ?_)
      refine stop_storeW encOpSH 1 tabOk rfl rfl rfl rfl rfl rfl rfl rfl hg1 k 0 x rfl hlt2 rfl (cOpSH x) (fun _ => by rw [← hx]; rfl) (by rw [List.drop_eq_nil_of_le (by exact Nat.le_refl _)]; simp) ?_
      have hw := e_succ k _ hlt (by omega)
      refine ⟨⟨(k + 1, ys ++ [x]), hlt, by rw [List.map_append]; exact map_take_succ hlt hy hxm⟩, ?_, by simp only; omega⟩
      refine weak_shift (.joinO [1, 2] (Gs := [[_], _]) ⟨.inl ⟨_, rfl, .own⟩, .inl ⟨_, rfl, .o⟩, trivial⟩ rfl (G := (ys ++ [x]).flatMap opSO) (by subst hx; rw [List.flatMap_append]; exact (List.Perm.of_eq (by simp [opSO])).trans List.perm_append_comm)) ?_
      refine weak_mk [1, 0, 2] ?_ ?_ ?_ ?_ ?_ rfl rfl
      · repeat (first | exact trivial | refine ⟨⟨_, rfl, (by first | exact .of rfl | exact .lit rfl | exact .of (by first | ((first | (rw [hT]; done) | (simp only; done) | exact congrArg (fun z => SV.v (Value.int .i64 z)) hw | (rw [← hT]; simp)))) | exact .lit (by first | ((first | (rw [hT]; done) | (simp only [hT]; done) | exact congrArg (fun z => SV.v (Value.int .i64 z)) hw | (rw [← hT]; simp))))), (by first | exact trivial | exact Nat.le_of_ble_eq_true rfl | exact small1 rfl)⟩, ?_⟩)
      · repeat (first | exact trivial | refine ⟨⟨(by first | exact .head _ | exact .tail _ (.head _) | exact .tail _ (.tail _ (.head _)) | exact .tail _ (.tail _ (.tail _ (.head _))) | exact .tail _ (.tail _ (.tail _ (.tail _ (.head _)))) | exact .tail _ (.tail _ (.tail _ (.tail _ (.tail _ (.head _))))) | exact .tail _ (.tail _ (.tail _ (.tail _ (.tail _ (.tail _ (.head _)))))) | exact .tail _ (.tail _ (.tail _ (.tail _ (.tail _ (.tail _ (.tail _ (.head _))))))) | exact .tail _ (.tail _ (.tail _ (.tail _ (.tail _ (.tail _ (.tail _ (.tail _ (.head _)))))))) | exact .tail _ (.tail _ (.tail _ (.tail _ (.tail _ (.tail _ (.tail _ (.tail _ (.tail _ (.head _)))))))))), Nat.le_of_ble_eq_true rfl⟩, ?_⟩)
      · repeat (first | exact trivial | refine ⟨⟨_, rfl, (by first | exact .of rfl | exact .lit rfl | exact .of (by first | ((first | (rw [hT]; done) | (simp only [hT]; done) | exact congrArg (fun z => SV.v (Value.int .i64 z)) hw | (rw [← hT]; simp)))) | exact .lit (by first | ((first | (rw [hT]; done) | (simp only [hT]; done) | exact congrArg (fun z => SV.v (Value.int .i64 z)) hw | (rw [← hT]; simp))))), (by first | exact trivial | exact Nat.le_of_ble_eq_true rfl | exact small1 rfl)⟩, ?_⟩)
      · repeat (first | exact trivial | refine ⟨⟨_, rfl⟩, ?_⟩)
      · repeat (first | exact trivial | refine ⟨.inl ⟨_, rfl, (by first | rfl | ((first | (rw [hT]; done) | (simp only [hT]; done) | exact congrArg (fun z => SV.v (Value.int .i64 z)) hw | (rw [← hT]; simp))))⟩, ?_⟩ | refine ⟨.inr ⟨Nat.le_of_ble_eq_true rfl, rfl, rfl, rfl, rfl⟩, ?_⟩)
    · have hge : xs.length ≤ k := by simpa using g
      have hT : ys ++ List.replicate (xs.length - k) OpSH0 = ys := by rw [show xs.length - k = 0 by omega]; simp
      simp only [hT]
      refine ret_shift (.joinO [0, 1] (Gs := [[_], _]) ⟨.inl ⟨_, rfl, .own⟩, .inl ⟨_, rfl, .o⟩, trivial⟩ rfl (G := threadsO y ys) (.of_eq (by simp [threadsO, nestO]))) ?_
      exact retw [0] ⟨y, ys, rfl, by rw [hy, List.take_of_length_le (by simpa using hge)], rfl⟩ ⟨.inl ⟨_, rfl, rfl⟩, trivial⟩ rfl ⟨rfl, trivial⟩ (fun _ => rfl)

set_option maxRecDepth 100000 in
theorem eqOpSS_c (h h2 : Sl) (xs ys : List OpSH) (w : World) (hh : At w [fR (threadsO h xs), fR (threadsO h2 ys)]) (hl : xs.length ≤ 1048576) (hb : ∀ x ∈ xs, OpS.small20 x.m) (hb2 : ∀ x ∈ ys, OpS.small20 x.m) :
    Calls Tryz.prog 34 #[h.val xs.length, h2.val ys.length] w (Ret w fun v L => v = .bool (decide (xs.map (·.m) = ys.map (·.m))) ∧ L = []) := by
  refine calls2 Tryz.func34 rfl tabOk w _ rfl _ rfl _ hh ⟨rfl, rfl, rfl, rfl, trivial⟩ _ _ (by decide) ?_
  refine CaseB.mk (fun g => ?_) (fun g => ?_)
  · have hne : xs.map (·.m) ≠ ys.map (·.m) := fun e => by
      have := congrArg List.length e
      simp at this g
      omega
    refine retw [] ⟨?_, rfl⟩ trivial rfl trivial (fun _ => rfl)
    simp [hne]
  · have hll : xs.length = ys.length := by simp at g; omega
    refine LoopW.mk ⟨{ k : Nat // k ≤ xs.length ∧ (xs.map (·.m)).take k = (ys.map (·.m)).take k },
      fun p => .mk [(0, .v (h.val xs.length)), (1, .v (h2.val ys.length)), (5, .v (.int .i64 p.1))] 0 0 [] [] [fR (threadsO h xs), fR (threadsO h2 ys)],
      fun p => xs.length - p.1, ⟨0, Nat.zero_le _, rfl⟩, ?_, ?_⟩
    · refine weak_mk [0, 1] ?_ ?_ ?_ ?_ ?_ rfl rfl
      · repeat (first | exact trivial | refine ⟨⟨_, rfl, (by first | exact .of rfl | exact .lit rfl | exact .of (by first | (rfl)) | exact .lit (by first | (rfl))), (by first | exact trivial | exact Nat.le_of_ble_eq_true rfl | exact small1 rfl)⟩, ?_⟩)
      · repeat (first | exact trivial | refine ⟨⟨(by first | exact .head _ | exact .tail _ (.head _) | exact .tail _ (.tail _ (.head _)) | exact .tail _ (.tail _ (.tail _ (.head _))) | exact .tail _ (.tail _ (.tail _ (.tail _ (.head _)))) | exact .tail _ (.tail _ (.tail _ (.tail _ (.tail _ (.head _))))) | exact .tail _ (.tail _ (.tail _ (.tail _ (.tail _ (.tail _ (.head _)))))) | exact .tail _ (.tail _ (.tail _ (.tail _ (.tail _ (.tail _ (.tail _ (.head _))))))) | exact .tail _ (.tail _ (.tail _ (.tail _ (.tail _ (.tail _ (.tail _ (.tail _ (.head _)))))))) | exact .tail _ (.tail _ (.tail _ (.tail _ (.tail _ (.tail _ (.tail _ (.tail _ (.tail _ (.head _)))))))))), Nat.le_of_ble_eq_true rfl⟩, ?_⟩)
      · repeat (first | exact trivial | refine ⟨⟨_, rfl, (by first | exact .of rfl | exact .lit rfl | exact .of (by first | (rfl)) | exact .lit (by first | (rfl))), (by first | exact trivial | exact Nat.le_of_ble_eq_true rfl | exact small1 rfl)⟩, ?_⟩)
      · repeat (first | exact trivial | refine ⟨⟨_, rfl⟩, ?_⟩)
      · repeat (first | exact trivial | refine ⟨.inl ⟨_, rfl, (by first | rfl | (rfl))⟩, ?_⟩ | refine ⟨.inr ⟨Nat.le_of_ble_eq_true rfl, rfl, rfl, rfl, rfl⟩, ?_⟩)
    · rintro ⟨k, hk, he⟩
      refine CaseB.mk (fun g2 => ?_) (fun g2 => ?_)
      · have hlt : k < xs.length := by simpa using g2
        have hlt2 : k < ys.length := by omega
        obtain ⟨q1, q2⟩ := take_eq_succ he (by simpa using hlt) (by simpa using hlt2)
        simp only [List.getElem_map] at q1 q2
        refine draw_start tabOk (by kernel_rfl) (by kernel_rfl) (by kernel_rfl) 200 [] [0, 1] [_, _] trivial trivial ⟨rfl, rfl, trivial⟩ rfl ?_
        refine d_idx (ti := tiOf tab) encOpSH tabOk rfl rfl rfl rfl rfl ⟨rfl, rfl⟩ (rdVia 0 rfl (.ofR nest_h)) k rfl (by first | omega | (simp; done) | (simp; omega) | (unfold maxLen; omega) | (unfold maxLen; simp; done) | (unfold maxLen; simp; omega)) (fun ad => ?_)
        refine d_idx (ti := tiOf tab) encOpSH tabOk rfl rfl rfl rfl rfl ⟨rfl, rfl⟩ (rdVia 1 rfl (.ofR nest_h)) k rfl (by first | omega | (simp; done) | (simp; omega) | (unfold maxLen; omega) | (unfold maxLen; simp; done) | (unfold maxLen; simp; omega)) (fun ad2 => ?_)
        refine d_call _ cl71 rfl rfl rfl rfl ⟨rfl, rfl⟩ (fun A w hW => eqOpS_c _ _ _ _ w ⟨hW.get 0 rfl (.ofR (threadsO_0 h xs k hlt)), hW.get 1 rfl (.ofR (threadsO_0 h2 ys k hlt2)), trivial⟩ (Nat.le_trans (hb _ (List.getElem_mem hlt)) (by decide)) (Nat.le_trans (hb2 _ (List.getElem_mem hlt2)) (by decide))) ?_
        rintro v L ⟨rfl, rfl⟩
        refine CaseB.mk (fun g3 => ?_) (fun g3 => ?_)
        · have hne := q2 (by simpa using g3)
          refine retw [] ⟨?_, rfl⟩ trivial rfl trivial (fun _ => rfl)
          simp [hne]
        · have heq := q1 (by simpa using g3)
          have hw := e_succ k _ hlt (by omega)
          refine ⟨⟨k + 1, by omega, heq⟩, ?_, by simp; omega⟩
          refine weak_mk [0, 1] ?_ ?_ ?_ ?_ ?_ rfl rfl
          · repeat (first | exact trivial | refine ⟨⟨_, rfl, (by first | exact .of rfl | exact .lit rfl | exact .of (by first | ((exact congrArg (fun z => SV.v (Value.int .i64 z)) hw))) | exact .lit (by first | ((exact congrArg (fun z => SV.v (Value.int .i64 z)) hw)))), (by first | exact trivial | exact Nat.le_of_ble_eq_true rfl | exact small1 rfl)⟩, ?_⟩)
          · repeat (first | exact trivial | refine ⟨⟨(by first | exact .head _ | exact .tail _ (.head _) | exact .tail _ (.tail _ (.head _)) | exact .tail _ (.tail _ (.tail _ (.head _))) | exact .tail _ (.tail _ (.tail _ (.tail _ (.head _)))) | exact .tail _ (.tail _ (.tail _ (.tail _ (.tail _ (.head _))))) | exact .tail _ (.tail _ (.tail _ (.tail _ (.tail _ (.tail _ (.head _)))))) | exact .tail _ (.tail _ (.tail _ (.tail _ (.tail _ (.tail _ (.tail _ (.head _))))))) | exact .tail _ (.tail _ (.tail _ (.tail _ (.tail _ (.tail _ (.tail _ (.tail _ (.head _)))))))) | exact .tail _ (.tail _ (.tail _ (.tail _ (.tail _ (.tail _ (.tail _ (.tail _ (.tail _ (.head _)))))))))), Nat.le_of_ble_eq_true rfl⟩, ?_⟩)
          · repeat (first | exact trivial | refine ⟨⟨_, rfl, (by first | exact .of rfl | exact .lit rfl | exact .of (by first | ((exact congrArg (fun z => SV.v (Value.int .i64 z)) hw))) | exact .lit (by first | ((exact congrArg (fun z => SV.v (Value.int .i64 z)) hw)))), (by first | exact trivial | exact Nat.le_of_ble_eq_true rfl | exact small1 rfl)⟩, ?_⟩)
          · repeat (first | exact trivial | refine ⟨⟨_, rfl⟩, ?_⟩)
          · repeat (first | exact trivial | refine ⟨.inl ⟨_, rfl, (by first | rfl | ((exact congrArg (fun z => SV.v (Value.int .i64 z)) hw)))⟩, ?_⟩ | refine ⟨.inr ⟨Nat.le_of_ble_eq_true rfl, rfl, rfl, rfl, rfl⟩, ?_⟩)
      · have hge : xs.length ≤ k := by simpa using g2
        have heq : xs.map (·.m) = ys.map (·.m) := by rw [List.take_of_length_le (by simpa using hge), List.take_of_length_le (by simp; omega)] at he; exact he
        refine retw [] ⟨?_, rfl⟩ trivial rfl trivial (fun _ => rfl)
        simp [heq]

end Go.Proofs.YtchkcjeeknfchaaGreatDoor

namespace Go.Proofs.YtchkcjeeknfchaaGreatDoor

open Go Go.Sx Go.RowKit

def Prog.small20 (s : Prog) : Prop := s.sems.length ≤ 1048576 ∧ s.groups.length ≤ 1048576 ∧ s.barriers.length ≤ 1048576 ∧ s.rooms.length ≤ 1048576 ∧ allS OpS.small20 s.threads

def szProgM (s : Prog) (left : Int) : Int := szSeq [szN s.sems.length, szN s.groups.length, szN s.barriers.length, szN s.rooms.length, szAll szOpSM s.threads] left

theorem szProgM_gen (s : Prog) (l : Int) (hl : l ≤ 1048576) (h : ¬ szProgM s l < 0) : s.small20 ∧ szProgM s l ≤ l := by
  simp only [szProgM, szSeq, szList] at h ⊢
  by_cases q0 : szN s.sems.length l < 0
  · simp [q0] at h
  obtain ⟨p0, r0⟩ := szN_gen hl q0
  have t0 : szN s.sems.length l ≤ 1048576 := Int.le_trans r0 hl
  by_cases q1 : szN s.groups.length (szN s.sems.length l) < 0
  · simp [q0, q1] at h
  obtain ⟨p1, r1⟩ := szN_gen t0 q1
  have t1 : szN s.groups.length (szN s.sems.length l) ≤ 1048576 := Int.le_trans r1 t0
  by_cases q2 : szN s.barriers.length (szN s.groups.length (szN s.sems.length l)) < 0
  · simp [q0, q1, q2] at h
  obtain ⟨p2, r2⟩ := szN_gen t1 q2
  have t2 : szN s.barriers.length (szN s.groups.length (szN s.sems.length l)) ≤ 1048576 := Int.le_trans r2 t1
  by_cases q3 : szN s.rooms.length (szN s.barriers.length (szN s.groups.length (szN s.sems.length l))) < 0
  · simp [q0, q1, q2, q3] at h
  obtain ⟨p3, r3⟩ := szN_gen t2 q3
  have t3 : szN s.rooms.length (szN s.barriers.length (szN s.groups.length (szN s.sems.length l))) ≤ 1048576 := Int.le_trans r3 t2
  by_cases q4 : szAll szOpSM s.threads (szN s.rooms.length (szN s.barriers.length (szN s.groups.length (szN s.sems.length l)))) < 0
  · simp [q0, q1, q2, q3, q4] at h
  obtain ⟨p4, r4⟩ := szAll_gen szOpSM_gen t3 q4
  have t4 : szAll szOpSM s.threads (szN s.rooms.length (szN s.barriers.length (szN s.groups.length (szN s.sems.length l)))) ≤ 1048576 := Int.le_trans r4 t3
  simp only [q0, q1, q2, q3, q4, if_false]
  exact ⟨⟨p0, p1, p2, p3, p4⟩, by omega⟩

set_option maxHeartbeats 16000000 in
set_option maxRecDepth 100000 in
theorem szProg_c (s : ProgH) (left : Int) (w : World) (h : At w [fR (progO s)]) (h0 : -1 ≤ left) (h1 : left ≤ 1048576) :
    Calls Tryz.prog 5 #[progV s, .int .i64 left] w (Ret w fun v L => v = .int .i64 (szProgM s.pure left) ∧ L = []) := by
  have hz : szProgM s.pure left = szSeq [szN s.sems.length, szN s.groups.length, szN s.barriers.length, szN s.rooms.length, szAll szOpSM (s.threads.map (·.m))] left := rfl
  simp only [szSeq, szList] at hz
  refine calls2 Tryz.func5 rfl tabOk w _ rfl _ rfl _ h ⟨rfl, rfl, trivial⟩ _ _ (by decide) ?_
  refine stop_call _ cl16 rfl rfl rfl rfl ⟨rfl, rfl⟩ (fun A w hW => ret_abs (szIntS_c s.h0 s.sems left w ⟨hW.get 0 rfl (.ofR (progO_sems s)), trivial⟩ h0 h1)) ?_
  rintro v L ⟨a0, e0, rfl, rfl⟩
  have r0 : ¬ szN s.sems.length left < 0 → szN s.sems.length left ≤ left := fun q => (szN_gen h1 q).2
  simp only [← e0] at hz
  rw [← e0] at r0
  refine CaseB.mk (fun g => ?_) (fun g => ?_)
  · have q : a0 < 0 := by simpa using g
    exact retw [] ⟨by rw [hz]; simp [q], rfl⟩ trivial rfl trivial (fun _ => rfl)
  have q0 : ¬ a0 < 0 := by simpa using g
  have u0 : -1 ≤ a0 := by omega
  have v0 : a0 ≤ 1048576 := Int.le_trans (r0 q0) h1
  refine stop_call _ cl16 rfl rfl rfl rfl ⟨rfl, rfl⟩ (fun A w hW => ret_abs (szIntS_c s.h1 s.groups a0 w ⟨hW.get 0 rfl (.ofR (progO_groups s)), trivial⟩ u0 v0)) ?_
  rintro v L ⟨a1, e1, rfl, rfl⟩
  have r1 : ¬ szN s.groups.length a0 < 0 → szN s.groups.length a0 ≤ a0 := fun q => (szN_gen v0 q).2
  simp only [← e1] at hz
  rw [← e1] at r1
  refine CaseB.mk (fun g => ?_) (fun g => ?_)
  · have q : a1 < 0 := by simpa using g
    exact retw [] ⟨by rw [hz]; simp [q0, q], rfl⟩ trivial rfl trivial (fun _ => rfl)
  have q1 : ¬ a1 < 0 := by simpa using g
  have u1 : -1 ≤ a1 := by omega
  have v1 : a1 ≤ 1048576 := Int.le_trans (r1 q1) v0
  refine stop_call _ cl16 rfl rfl rfl rfl ⟨rfl, rfl⟩ (fun A w hW => ret_abs (szIntS_c s.h2 s.barriers a1 w ⟨hW.get 0 rfl (.ofR (progO_barriers s)), trivial⟩ u1 v1)) ?_
  rintro v L ⟨a2, e2, rfl, rfl⟩
  have r2 : ¬ szN s.barriers.length a1 < 0 → szN s.barriers.length a1 ≤ a1 := fun q => (szN_gen v1 q).2
  simp only [← e2] at hz
  rw [← e2] at r2
  refine CaseB.mk (fun g => ?_) (fun g => ?_)
  · have q : a2 < 0 := by simpa using g
    exact retw [] ⟨by rw [hz]; simp [q0, q1, q], rfl⟩ trivial rfl trivial (fun _ => rfl)
  have q2 : ¬ a2 < 0 := by simpa using g
  have u2 : -1 ≤ a2 := by omega
  have v2 : a2 ≤ 1048576 := Int.le_trans (r2 q2) v1
  refine stop_call _ cl16 rfl rfl rfl rfl ⟨rfl, rfl⟩ (fun A w hW => ret_abs (szIntS_c s.h3 s.rooms a2 w ⟨hW.get 0 rfl (.ofR (progO_rooms s)), trivial⟩ u2 v2)) ?_
  rintro v L ⟨a3, e3, rfl, rfl⟩
  have r3 : ¬ szN s.rooms.length a2 < 0 → szN s.rooms.length a2 ≤ a2 := fun q => (szN_gen v2 q).2
  simp only [← e3] at hz
  rw [← e3] at r3
  refine CaseB.mk (fun g => ?_) (fun g => ?_)
  · have q : a3 < 0 := by simpa using g
    exact retw [] ⟨by rw [hz]; simp [q0, q1, q2, q], rfl⟩ trivial rfl trivial (fun _ => rfl)
  have q3 : ¬ a3 < 0 := by simpa using g
  have u3 : -1 ≤ a3 := by omega
  have v3 : a3 ≤ 1048576 := Int.le_trans (r3 q3) v2
  refine stop_call _ cl17 rfl rfl rfl rfl ⟨rfl, rfl⟩ (fun A w hW => ret_abs (szOpSS_c s.h4 s.threads a3 w ⟨hW.get 0 rfl (.R_R (progO_threads s)), trivial⟩ u3 v3)) ?_
  rintro v L ⟨a4, e4, rfl, rfl⟩
  have r4 : ¬ szAll szOpSM (s.threads.map (·.m)) a3 < 0 → szAll szOpSM (s.threads.map (·.m)) a3 ≤ a3 := fun q => (szAll_gen szOpSM_gen v3 q).2
  simp only [← e4] at hz
  rw [← e4] at r4
  refine CaseB.mk (fun g => ?_) (fun g => ?_)
  · have q : a4 < 0 := by simpa using g
    exact retw [] ⟨by rw [hz]; simp [q0, q1, q2, q3, q], rfl⟩ trivial rfl trivial (fun _ => rfl)
  have q4 : ¬ a4 < 0 := by simpa using g
  have u4 : -1 ≤ a4 := by omega
  have v4 : a4 ≤ 1048576 := Int.le_trans (r4 q4) v3
  refine retw [] ⟨?_, rfl⟩ trivial rfl trivial (fun _ => rfl)
  rw [hz]; simp [q0, q1, q2, q3, q4]

set_option maxHeartbeats 16000000 in
set_option maxRecDepth 100000 in
theorem toProg_c (s : ProgH) (w : World) (h : At w [fR (progO s)]) (hb : s.pure.small20) :
    Calls Tryz.prog 8 #[progV s] w (Ret w fun v L => ∃ y : ProgH, v = progV y ∧ y.pure = s.pure ∧ L = [fO (progO y)]) := by
  obtain ⟨b0, b1, b2, b3, b4⟩ := hb
  refine calls1 Tryz.func8 rfl tabOk w _ rfl _ rfl _ h ⟨rfl, rfl, trivial⟩ _ (by decide) ?_
  refine stop_call _ cl24 rfl rfl rfl rfl ⟨rfl, rfl⟩ (fun A w hW => toIntS_c s.h0 s.sems w ⟨hW.get 0 rfl (.ofR (progO_sems s)), trivial⟩ b0) ?_
  rintro v L ⟨y0, rfl, rfl⟩
  refine stop_call _ cl24 rfl rfl rfl rfl ⟨rfl, rfl⟩ (fun A w hW => toIntS_c s.h1 s.groups w ⟨hW.get 1 rfl (.ofR (progO_groups s)), trivial⟩ b1) ?_
  rintro v L ⟨y1, rfl, rfl⟩
  refine stop_call _ cl24 rfl rfl rfl rfl ⟨rfl, rfl⟩ (fun A w hW => toIntS_c s.h2 s.barriers w ⟨hW.get 2 rfl (.ofR (progO_barriers s)), trivial⟩ b2) ?_
  rintro v L ⟨y2, rfl, rfl⟩
  refine stop_call _ cl24 rfl rfl rfl rfl ⟨rfl, rfl⟩ (fun A w hW => toIntS_c s.h3 s.rooms w ⟨hW.get 3 rfl (.ofR (progO_rooms s)), trivial⟩ b3) ?_
  rintro v L ⟨y3, rfl, rfl⟩
  refine stop_call _ cl25 rfl rfl rfl rfl ⟨rfl, rfl⟩ (fun A w hW => toOpSS_c s.h4 s.threads w ⟨hW.get 4 rfl (.R_R (progO_threads s)), trivial⟩ (allS_map b4).1 (allS_map b4).2) ?_
  rintro v L ⟨y4, ys4, rfl, e4, rfl⟩
  generalize hy : (⟨s.sems, s.groups, s.barriers, s.rooms, ys4, y0, y1, y2, y3, y4⟩ : ProgH) = y
  refine ret_shift (.joinO [4, 3, 2, 1, 0] (Gs := [[_], [_], [_], [_], _]) ⟨.inl ⟨_, rfl, .own⟩, .inl ⟨_, rfl, .own⟩, .inl ⟨_, rfl, .own⟩, .inl ⟨_, rfl, .own⟩, .inl ⟨_, rfl, .o⟩, trivial⟩ rfl (G := progO y) ?_) ?_
  · subst hy; exact .of_eq (by simp [progO])
  exact retw [0] ⟨y, by rw [← hy]; rfl, by rw [← hy]; simp [ProgH.pure, e4], rfl⟩ ⟨.inl ⟨_, rfl, rfl⟩, trivial⟩ rfl ⟨rfl, trivial⟩ (fun _ => rfl)

set_option maxHeartbeats 16000000 in
set_option maxRecDepth 100000 in
theorem eqProg_c (s t : ProgH) (w : World) (h : At w [fR (progO s), fR (progO t)]) (hb : s.pure.small20) (hb2 : t.pure.small20) :
    Calls Tryz.prog 11 #[progV s, progV t] w (Ret w fun v L => v = .bool (decide (s.pure = t.pure)) ∧ L = []) := by
  have hx : s.pure = t.pure ↔ s.sems = t.sems ∧ s.groups = t.groups ∧ s.barriers = t.barriers ∧ s.rooms = t.rooms ∧ s.threads.map (·.m) = t.threads.map (·.m) := by
    simp only [ProgH.pure, Prog.mk.injEq]
  obtain ⟨b0, b1, b2, b3, b4⟩ := hb
  obtain ⟨c0, c1, c2, c3, c4⟩ := hb2
  refine calls2 Tryz.func11 rfl tabOk w _ rfl _ rfl _ h ⟨rfl, rfl, rfl, rfl, trivial⟩ _ _ (by decide) ?_
  refine stop_call _ cl33 rfl rfl rfl rfl ⟨rfl, rfl⟩ (fun A w hW => eqIntS_c s.h0 t.h0 s.sems t.sems w ⟨hW.get 0 rfl (.ofR (progO_sems s)), hW.get 1 rfl (.ofR (progO_sems t)), trivial⟩ (Nat.le_trans b0 (by decide)) (Nat.le_trans c0 (by decide))) ?_
  rintro v L ⟨rfl, rfl⟩
  refine CaseB.mk (fun g0 => ?_) (fun g0 => ?_)
  · have g : ¬ s.pure = t.pure := fun e => by rw [hx] at e; simp [e] at g0
    exact retw [] ⟨by simp [g], rfl⟩ trivial rfl trivial (fun _ => rfl)
  refine stop_call _ cl33 rfl rfl rfl rfl ⟨rfl, rfl⟩ (fun A w hW => eqIntS_c s.h1 t.h1 s.groups t.groups w ⟨hW.get 0 rfl (.ofR (progO_groups s)), hW.get 1 rfl (.ofR (progO_groups t)), trivial⟩ (Nat.le_trans b1 (by decide)) (Nat.le_trans c1 (by decide))) ?_
  rintro v L ⟨rfl, rfl⟩
  refine CaseB.mk (fun g1 => ?_) (fun g1 => ?_)
  · have g : ¬ s.pure = t.pure := fun e => by rw [hx] at e; simp [e] at g1
    exact retw [] ⟨by simp [g], rfl⟩ trivial rfl trivial (fun _ => rfl)
  refine stop_call _ cl33 rfl rfl rfl rfl ⟨rfl, rfl⟩ (fun A w hW => eqIntS_c s.h2 t.h2 s.barriers t.barriers w ⟨hW.get 0 rfl (.ofR (progO_barriers s)), hW.get 1 rfl (.ofR (progO_barriers t)), trivial⟩ (Nat.le_trans b2 (by decide)) (Nat.le_trans c2 (by decide))) ?_
  rintro v L ⟨rfl, rfl⟩
  refine CaseB.mk (fun g2 => ?_) (fun g2 => ?_)
  · have g : ¬ s.pure = t.pure := fun e => by rw [hx] at e; simp [e] at g2
    exact retw [] ⟨by simp [g], rfl⟩ trivial rfl trivial (fun _ => rfl)
  refine stop_call _ cl33 rfl rfl rfl rfl ⟨rfl, rfl⟩ (fun A w hW => eqIntS_c s.h3 t.h3 s.rooms t.rooms w ⟨hW.get 0 rfl (.ofR (progO_rooms s)), hW.get 1 rfl (.ofR (progO_rooms t)), trivial⟩ (Nat.le_trans b3 (by decide)) (Nat.le_trans c3 (by decide))) ?_
  rintro v L ⟨rfl, rfl⟩
  refine CaseB.mk (fun g3 => ?_) (fun g3 => ?_)
  · have g : ¬ s.pure = t.pure := fun e => by rw [hx] at e; simp [e] at g3
    exact retw [] ⟨by simp [g], rfl⟩ trivial rfl trivial (fun _ => rfl)
  refine stop_call _ cl34 rfl rfl rfl rfl ⟨rfl, rfl⟩ (fun A w hW => eqOpSS_c s.h4 t.h4 s.threads t.threads w ⟨hW.get 0 rfl (.R_R (progO_threads s)), hW.get 1 rfl (.R_R (progO_threads t)), trivial⟩ (allS_map b4).1 (allS_map b4).2 (allS_map c4).2) ?_
  rintro v L ⟨rfl, rfl⟩
  refine CaseB.mk (fun g4 => ?_) (fun g4 => ?_)
  · have g : ¬ s.pure = t.pure := fun e => by rw [hx] at e; simp [e] at g4
    exact retw [] ⟨by simp [g], rfl⟩ trivial rfl trivial (fun _ => rfl)
  have g : s.pure = t.pure := hx.2 ⟨by simpa using g0, by simpa using g1, by simpa using g2, by simpa using g3, by simpa using g4⟩
  exact retw [] ⟨by simp [g], rfl⟩ trivial rfl trivial (fun _ => rfl)

end Go.Proofs.YtchkcjeeknfchaaGreatDoor

namespace Go.Proofs.YtchkcjeeknfchaaGreatDoor

open Go Go.Sx Go.RowKit

theorem neWait (x y : Waiting) (w : World) : (binOp .neq 110 (.agg (cWait x).toArray) (.agg (cWait y).toArray)).run Tryz.prog w = .ok (.bool (decide (x ≠ y))) w := by
  have h := neq_ints (P := Tryz.prog) (t := 110) (it := 3) (xs := [x.kind, x.on, x.arg]) (ys := [y.kind, y.on, y.arg]) (by kernel_rfl) (by kernel_rfl) (by kernel_rfl) rfl (by kernel_rfl) w
  have e : ([x.kind, x.on, x.arg] ≠ [y.kind, y.on, y.arg]) ↔ x ≠ y := by cases x; cases y; simp
  rw [show decide (x ≠ y) = decide ([x.kind, x.on, x.arg] ≠ [y.kind, y.on, y.arg]) from by simp only [e]]
  exact h

/-- What is told of a key. -/
def ofKey {β : Type} (es : List (Int × β)) (t : Int) : List β := (es.filter fun e => e.1 == t).map (·.2)

theorem aget_aset {β : Type} (m : List (Int × β)) (k : Int) (v : β) (t : Int) : aget (aset m k v) t = if k = t then some v else aget m t := by
  induction m with
  | nil => simp only [aset, aget]
  | cons p r ih =>
    obtain ⟨q, u⟩ := p
    simp only [aset]
    by_cases e : q = k
    · subst e
      simp only [if_true, aget]
      by_cases e2 : q = t <;> simp [e2]
    · simp only [e, if_false, aget, ih]
      by_cases e2 : q = t
      · subst e2
        have : ¬ k = q := fun h => e h.symm
        simp [this]
      · simp [e2]

theorem mapOf_get {β : Type} (es : List (Int × β)) (t : Int) : aget (mapOf es) t = if ofKey es t = [] then none else some (ofKey es t) := by
  have : ∀ (es : List (Int × β)) (m : List (Int × List β)) (f : List β), (aget m t = if f = [] then none else some f) → aget (es.foldl addM m) t = if f ++ ofKey es t = [] then none else some (f ++ ofKey es t) := fun es => by
    induction es with
    | nil => intro m f h; simpa [ofKey] using h
    | cons e r ih =>
      intro m f h
      obtain ⟨k, x⟩ := e
      simp only [List.foldl_cons]
      by_cases hk : k = t
      · subst hk
        have h1 : aget (addM m (k, x)) k = some (f ++ [x]) := by
          rw [addM, aget_aset, if_pos rfl, h]
          by_cases hf : f = []
          · simp [hf]
          · simp [hf]
        have := ih (addM m (k, x)) (f ++ [x]) (by rw [h1]; simp)
        rw [this]
        simp [ofKey]
      · have h1 : aget (addM m (k, x)) t = aget m t := by rw [addM, aget_aset, if_neg hk]
        have := ih (addM m (k, x)) f (by rw [h1]; exact h)
        rw [this]
        have e2 : ofKey ((k, x) :: r) t = ofKey r t := by simp [ofKey, hk]
        rw [e2]
  have := this es [] [] (by simp [aget])
  simpa [mapOf] using this

theorem mapOf_getD {β : Type} (es : List (Int × β)) (t : Int) : (aget (mapOf es) t).getD [] = ofKey es t := by
  rw [mapOf_get]
  by_cases h : ofKey es t = [] <;> simp [h]

theorem ofKey_nil {β : Type} {es : List (Int × β)} {t : Int} : ofKey es t = [] ↔ ∀ e ∈ es, e.1 ≠ t := by
  simp [ofKey, List.filter_eq_nil_iff]

/-- Keys come once. -/
def keyed {β : Type} (m : List (Int × β)) : Prop := (m.map (·.1)).Nodup

theorem aset_keys {β : Type} (m : List (Int × β)) (k : Int) (v : β) : (aset m k v).map (·.1) = if k ∈ m.map (·.1) then m.map (·.1) else m.map (·.1) ++ [k] := by
  induction m with
  | nil => simp [aset]
  | cons p r ih =>
    obtain ⟨q, u⟩ := p
    simp only [aset]
    by_cases e : q = k
    · simp [e]
    · have e' : ¬ k = q := fun h => e h.symm
      simp only [e, if_false, List.map_cons, ih, List.mem_cons, e', false_or]
      split <;> simp

theorem mapOf_keyed {β : Type} (es : List (Int × β)) : keyed (mapOf es) := by
  have : ∀ (es : List (Int × β)) (m : List (Int × List β)), keyed m → keyed (es.foldl addM m) := fun es => by
    induction es with
    | nil => intro m h; exact h
    | cons e r ih =>
      intro m h
      refine ih _ ?_
      simp only [keyed, addM, aset_keys] at h ⊢
      split
      · exact h
      · rename_i hn
        rw [List.nodup_append]
        exact ⟨h, by simp, fun a ha b hb => by simp at hb; subst hb; rintro rfl; exact hn ha⟩
  exact this es [] (by simp [keyed])

theorem keyed_pm {β : Type} {ps : List (Int × LH β)} : keyed (pm ps) ↔ keyed ps := by
  simp [keyed, pm, Function.comp_def]

theorem aget_none {β : Type} {m : List (Int × β)} {t : Int} : aget m t = none ↔ t ∉ m.map (·.1) := by
  induction m with
  | nil => simp [aget]
  | cons p r ih =>
    obtain ⟨q, u⟩ := p
    simp only [aget]
    by_cases e : q = t
    · simp [e]
    · have e' : ¬ t = q := fun h => e h.symm
      simp [e, e', ih]

theorem aget_in {β : Type} {m : List (Int × β)} {t : Int} {u : β} (h : aget m t = some u) : (t, u) ∈ m := by
  induction m with
  | nil => simp [aget] at h
  | cons p r ih =>
    obtain ⟨q, v⟩ := p
    simp only [aget] at h
    by_cases e : q = t
    · simp only [e, if_true, Option.some.injEq] at h
      subst h; subst e; simp
    · simp only [e, if_false] at h
      exact List.mem_cons_of_mem _ (ih h)

theorem adel_sub {β : Type} (m : List (Int × β)) (t : Int) : (adel m t).Sublist m := by
  induction m with
  | nil => exact .refl _
  | cons p r ih =>
    obtain ⟨q, v⟩ := p
    simp only [adel]
    split
    · exact List.sublist_cons_self _ _
    · exact ih.cons_cons _

theorem keyed_del {β : Type} {m : List (Int × β)} (h : keyed m) (t : Int) : keyed (adel m t) := h.sublist ((adel_sub m t).map _)

theorem aget_del {β : Type} {m : List (Int × β)} (h : keyed m) (t x : Int) : aget (adel m t) x = if x = t then none else aget m x := by
  induction m with
  | nil => simp [adel, aget]
  | cons p r ih =>
    obtain ⟨q, v⟩ := p
    have hq : q ∉ r.map (·.1) ∧ keyed r := by simpa [keyed] using h
    simp only [adel]
    by_cases e : q = t
    · subst e
      simp only [if_true]
      by_cases ex : x = q
      · subst ex; simp only [if_true]; exact aget_none.2 hq.1
      · have : ¬ q = x := fun h => ex h.symm
        simp [ex, aget, this]
    · simp only [e, if_false, aget, ih hq.2]
      by_cases ex : q = x
      · subst ex; simp [e]
      · simp [ex]

theorem nil_of_none {β : Type} {m : List (Int × β)} (h : ∀ x, aget m x = none) : m = [] := by
  cases m with
  | nil => rfl
  | cons p r =>
    have := h p.1
    simp [aget] at this

theorem rows_in {β : Type} {ty : TypeId} {enc : β → List Value} {sz : Nat} {ps : List (Int × LH β)} {t : Int} {u : LH β} (h : (t, u) ∈ ps) : RdIn (rowsM ty enc sz ps) (slo u.q enc sz u.xs) :=
  RdIn.own (o := false) (e := ty) (List.mem_flatMap.2 ⟨_, h, by simp⟩)

/-- What is left of a map when the keys from 0 up to k are taken out. -/
structure Left {β : Type} (ps qs : List (Int × LH β)) (k : Nat) : Prop where
  sub : qs.Sublist ps
  key : keyed qs
  get : ∀ x, aget qs x = if 0 ≤ x ∧ x < k then none else aget ps x

theorem Left.start {β : Type} {ps : List (Int × LH β)} (h : keyed ps) : Left ps ps 0 := ⟨.refl _, h, fun x => by rw [if_neg (by omega)]⟩

theorem Left.next {β : Type} {ps qs : List (Int × LH β)} {k : Nat} (h : Left ps qs k) : Left ps (adel qs (k : Int)) (k + 1) := by
  refine ⟨(adel_sub _ _).trans h.sub, keyed_del h.key _, fun x => ?_⟩
  rw [aget_del h.key, h.get]
  by_cases e : x = k
  · rw [if_pos e, if_pos (by omega)]
  · rw [if_neg e]
    by_cases e2 : 0 ≤ x ∧ x < k
    · rw [if_pos e2, if_pos (by omega)]
    · rw [if_neg e2, if_neg (by omega)]

theorem Left.at {β : Type} {ps qs : List (Int × LH β)} {k : Nat} (h : Left ps qs k) {es : List (Int × β)} (he : pm ps = mapOf es) : ((aget qs (k : Int)).getD LH.nil).xs = ofKey es k := by
  have h1 := h.get k
  rw [if_neg (by omega)] at h1
  have h2 := mapOf_getD es (k : Int)
  rw [← he, pm_aget] at h2
  rw [h1, ← h2]
  cases aget ps (k : Int) <;> rfl

theorem Left.done {β : Type} {ps qs : List (Int × LH β)} {k : Nat} (h : Left ps qs k) {es : List (Int × β)} (he : pm ps = mapOf es) : qs = [] ↔ ∀ e ∈ es, 0 ≤ e.1 ∧ e.1 < k := by
  constructor
  · rintro rfl e hm
    refine Classical.byContradiction fun hn => ?_
    have h1 := h.get e.1
    rw [if_neg hn] at h1
    have h2 := mapOf_get es e.1
    have h3 : ofKey es e.1 ≠ [] := fun h0 => ofKey_nil.1 h0 e hm rfl
    rw [if_neg h3, ← he, pm_aget, ← h1] at h2
    simp [aget] at h2
  · intro hall
    refine nil_of_none fun x => ?_
    rw [h.get]
    split
    · rfl
    · rename_i hn
      have h3 : ofKey es x = [] := ofKey_nil.2 fun e hm hx => hn (hx ▸ hall e hm)
      have h2 := mapOf_get es x
      rw [if_pos h3, ← he, pm_aget] at h2
      cases hq : aget ps x with
      | none => rfl
      | some u => rw [hq] at h2; simp at h2

/-- What a thread waits for that waits for its operation. -/
def want (o : Op) : Waiting := ⟨o.kind, o.on, if o.kind = 2 ∨ o.kind = 8 then o.arg else 0⟩

/-- A thread's place, status, and where it waits and what it owns. -/
def ThreadOk (ops : List Op) (at_ st : Int) (w : List Waiting) (o : List Int) : Prop :=
  0 ≤ at_ ∧ at_ ≤ ops.length ∧ ((at_ = ops.length ∧ st = 3 ∧ w = [] ∧ o = []) ∨
    ∃ op, ops[at_.toNat]? = some op ∧ ((st = 0 ∧ w = [] ∧ o = []) ∨ (st = 1 ∧ o = [] ∧ w = [want op]) ∨ (st = 2 ∧ w = [] ∧ op.kind = 4 ∧ o = [op.on])))

structure Fits (p : Prog) (s : State) : Prop where
  prog : ProgOk p
  np : s.places.length = p.threads.length
  ns : s.status.length = p.threads.length
  lsems : s.sems.length = p.sems.length
  lgroups : s.groups.length = p.groups.length
  lbarriers : s.barriers.length = p.barriers.length
  lchans : s.chans.length = p.rooms.length
  lonces : s.onces.length = 3
  lsaid : s.said.length ≤ 64
  f0 : 0 ≤ s.fault
  f4 : s.fault ≤ 4
  sems : ∀ (i : Nat) x, s.sems[i]? = some x → SemOk x ∧ p.sems[i]? = some x.limit
  groups : ∀ x ∈ s.groups, GroupOk x
  barriers : ∀ (i : Nat) x, s.barriers[i]? = some x → BarrierOk x ∧ p.barriers[i]? = some x.parties
  chans : ∀ (i : Nat) x, s.chans[i]? = some x → x.valid = true ∧ p.rooms[i]? = some x.room
  onces : ∀ x ∈ s.onces, OnceOk x
  said : ∀ v ∈ s.said, isValue v = true
  threads : ∀ (t : Nat) ops at_ st, p.threads[t]? = some ops → s.places[t]? = some at_ → s.status[t]? = some st → ThreadOk ops at_ st (ofKey (events s) t) (ofKey (owners s) t)
  ev : ∀ e ∈ events s, 0 ≤ e.1 ∧ e.1 < p.threads.length
  ow : ∀ e ∈ owners s, 0 ≤ e.1 ∧ e.1 < p.threads.length

theorem evL_len {α β : Type} {f : Nat → α → List β} {C : Nat} : ∀ {i : Nat} {xs : List α}, (∀ i x, x ∈ xs → (f i x).length ≤ C) → (evL f i xs).length ≤ xs.length * C
  | i, [], _ => by simp [evL]
  | i, x :: r, h => by
    have h1 := h i x (by simp)
    have h2 := evL_len (i := i + 1) (xs := r) fun i y hy => h i y (by simp [hy])
    have e : (r.length + 1) * C = r.length * C + C := Nat.succ_mul _ _
    simp only [evL, List.length_append, List.length_cons, e]
    omega

theorem onceOk_len {m : Once} (h : OnceOk m) : m.waits.length ≤ 6 := by
  rcases h with h | h | h
  · rw [h.2.2.2]; simp
  · exact distinct_len h.2.2.2.1
  · rw [h.2.2.2]; simp

theorem barrierOk_len {m : Barrier} (h : BarrierOk m) : m.waits.length ≤ 6 := distinct_len h.2.2.2.2.2

theorem groupOk_len {m : Group} (h : GroupOk m) : m.waits.length ≤ 6 := distinct_len h.2.1

theorem chanOk_len {m : Chan} (h : m.valid = true) : m.senders.length + m.getters.length ≤ 6 := by
  have hv : m.Valid := by simpa [Chan.valid] using h
  have := distinct_len hv.di
  simpa [Chan.threads] using this

end Go.Proofs.YtchkcjeeknfchaaGreatDoor

namespace Go.Sx

open Go Go.RowKit

def bs (l : List UInt8) : ByteArray := ⟨l.toArray⟩

theorem bs_list (l : List UInt8) : (bs l).toList = l := ByteArray.toList_mk l

theorem bs_size (l : List UInt8) : (bs l).size = l.length := by simp [bs, ByteArray.size]

theorem bs_add (a b : List UInt8) : bs a ++ bs b = bs (a ++ b) := ByteArray.mk_append_mk a b

def cTxt (x : List UInt8) : List Value := [.string (bs x)]

theorem encTxt : Enc cTxt 1 := ⟨fun _ => rfl, fun _ u hu => by simp [cTxt] at hu; subst hu; rfl⟩

theorem sadd_run {P : Program} {t : TypeId} {a b : List UInt8} (h : a.length + b.length ≤ 9223372036854775807) (w : World) : (binOp .add t (.string (bs a)) (.string (bs b))).run P w = .ok (.string (bs (a ++ b))) w := by
  rw [binOp_string_add, run_string_add_sum w _ _ (by rw [bs_size, bs_size]; exact h), bs_add]

theorem sne_run {P : Program} {t : TypeId} {a b : List UInt8} (w : World) : (binOp .neq t (.string (bs a)) (.string (bs b))).run P w = .ok (.bool (a != b)) w := by
  rw [binOp_string_neq, bne]
  show (Op.stringOp .neq _ _).run P w = _
  simp [Op.stringOp, bs_list]

section

variable {E : Env} {ti : Nat → TI} {A : Nat → Nat} {T : List (Nat × SV)} {n c : Nat} {B : List (Nat × TypeId × Nat)} {M : List ((Nat × Nat) × SV)} {F Fs : List Fct} {o : Oper} {next : St → Prop} {a : Act} {w : World}

theorem ti_string {P : Program} {t : TypeId} {agg : Bool} {size bytes : Nat} {zero : List Value} {fs : List (Nat × Nat × Bool)} {el : Option TypeId} {ik : Option IntKind} (h : TIok P t (.mk agg size zero fs el ik 2 bytes)) : P.underlying t = some .string := by
  obtain ⟨ii, dd, z, e1, e2, e3, e4, e5, e6, e7, e8, e9, e10, e11⟩ := tiSum_parts h
  rw [e2, kd_string e10]

/-- a string of a list of bytes -/
theorem b2s_run (hti : ∀ t, TIok E.P t (ti t)) (hT : TD E A T n c a w) {src dst e : TypeId} {x : Operand} {i : Sl} {s : List UInt8} {agg : Bool} {size bytes kk : Nat} {zero : List Value} {fs : List (Nat × Nat × Bool)} {ik : Option IntKind} {agg2 : Bool} {size2 bytes2 kk2 : Nat} {zero2 : List Value} {fs2 : List (Nat × Nat × Bool)} {el2 : Option TypeId} {agg3 : Bool} {size3 bytes3 : Nat} {zero3 : List Value} {fs3 : List (Nat × Nat × Bool)} {el3 : Option TypeId} {ik3 : Option IntKind}
    (hop : o.op = .convert src dst x) (hx : evalO T x = some (.v (i.val s.length))) (ht : ti src = .mk agg size zero fs (some e) ik kk bytes) (hte : ti e = .mk agg2 size2 zero2 fs2 el2 (some .u8) kk2 bytes2) (htd : ti dst = .mk agg3 size3 zero3 fs3 el3 ik3 2 bytes3)
    (hr : RdS w i 1 (s.map fun b => .int .u8 (b.toNat : Int)) s.length) (hpos : 0 < s.length) : (execOp a.eval o).run E.P w = .ok (.value (.string (bs s))) w := by
  have htt := hti src
  rw [ht] at htt
  obtain ⟨ii, dd, z, e1, e2, e3, e4, e5, e6, e7, e8, e9, e10, e11⟩ := tiSum_parts htt
  have h1 : E.P.underlying src = some (.slice e) := by rw [e2, el_slice e8]
  have htt2 := hti e
  rw [hte] at htt2
  obtain ⟨ii2, dd2, z2, k1, k2, k3, k4, k5, k6, k7, k8, k9, k10, k11⟩ := tiSum_parts htt2
  have h2 : E.P.underlying e = some (.int .u8) := by rw [k2, ik_int k9]
  have htt3 := hti dst
  rw [htd] at htt3
  have h3 := ti_string htt3
  have hx' := (evalO_sound hT hx).1
  simp only [SV.den, Sl.val] at hx'
  obtain ⟨_, _, _, hc⟩ := hr
  obtain ⟨ad, ha, hcell⟩ := hc hpos
  have key := run_convert_bytes_back (P := E.P) w src dst e ad i.c s h1 h2 h3 (fun j hj => hcell j _ (by simp [List.getElem?_eq_getElem hj]))
  rw [ha] at hx'
  simp only [execOp, hop, hx', key, Sem.run_bind, Sem.run_pure, Result.andThen_ok]
  rfl

theorem stop_b2s {src dst e : TypeId} {x : Operand} {d : Nat} {i : Sl} {s : List UInt8} {agg : Bool} {size bytes kk : Nat} {zero : List Value} {fs : List (Nat × Nat × Bool)} {ik : Option IntKind} {agg2 : Bool} {size2 bytes2 kk2 : Nat} {zero2 : List Value} {fs2 : List (Nat × Nat × Bool)} {el2 : Option TypeId} {agg3 : Bool} {size3 bytes3 : Nat} {zero3 : List Value} {fs3 : List (Nat × Nat × Bool)} {el3 : Option TypeId} {ik3 : Option IntKind}
    (hti : ∀ t, TIok E.P t (ti t)) (hop : o.op = .convert src dst x) (hx : evalO T x = some (.v (i.val s.length))) (ht : ti src = .mk agg size zero fs (some e) ik kk bytes) (hte : ti e = .mk agg2 size2 zero2 fs2 el2 (some .u8) kk2 bytes2) (htd : ti dst = .mk agg3 size3 zero3 fs3 el3 ik3 2 bytes3) (hd : Dst E o d)
    (hF : ∀ w, (∀ f ∈ F, f.P w) → RdS w i 1 (s.map fun b => .int .u8 (b.toNat : Int)) s.length) (hpos : 0 < s.length)
    (hnext : next (.mk ((d, .v (.string (bs s))) :: T) n c B M F)) : OpW (opStop E o next T n c B M F) := by
  refine ⟨fun A a w hW hT => ?_⟩
  refine upon_of_value (b2s_run hti hT hop hx ht hte htd (hF w (fun f hf => (hW.fct f hf).1)) hpos) ?_
  rw [hd.1]
  exact ⟨_, ⟨_, hW, hT.put (v := .v (.string (bs s))) hd.lt trivial⟩, hnext⟩

end

end Go.Sx

namespace Go.Proofs.YtchkcjeeknfchaaGreatDoor

open Go Go.Sx Go.RowKit

/-- A text: its bytes. -/
abbrev Str := List UInt8

def isNeg (s : Str) : Bool := decide (s.head? = some 45)

def unNeg (s : Str) : Str := if isNeg s = true then s.drop 1 else s

def numBad (s : Str) : Prop := (unNeg s).length = 0 ∨ 17 < (unNeg s).length ∨ ((unNeg s).head? = some 48 ∧ (1 < (unNeg s).length ∨ isNeg s = true))

instance (s : Str) : Decidable (numBad s) := by unfold numBad; exact inferInstance

/-- The decimal text of a number of at most f digits, set before 'out'. -/
def decG : Nat → Nat → Str → Str
  | 0, _, out => out
  | f + 1, n, out => if 9 < n then decG f (n / 10) (UInt8.ofNat (48 + n % 10) :: out) else UInt8.ofNat (48 + n) :: out

def decM (n : Int) : Str := if n < 0 then 45 :: decG 19 n.natAbs [] else decG 19 n.toNat []

theorem decG_len : ∀ (f n : Nat) (out : Str), (decG f n out).length ≤ out.length + f
  | 0, n, out => Nat.le_refl _
  | f + 1, n, out => by
    simp only [decG]
    split
    · have := decG_len f (n / 10) (UInt8.ofNat (48 + n % 10) :: out); simp only [List.length_cons] at this; omega
    · simp only [List.length_cons]; omega

theorem decM_len (n : Int) : (decM n).length ≤ 20 := by
  unfold decM
  split
  · have := decG_len 19 n.natAbs []; simp only [List.length_cons, List.length_nil] at this ⊢; omega
  · have := decG_len 19 n.toNat []; simp only [List.length_nil] at this; omega

instance (xs : List Int) (a b : Int) : Decidable (within xs a b) := by unfold within; exact inferInstance

instance (p : Prog) (o : Op) : Decidable (p.argOk o) := by unfold Prog.argOk; exact inferInstance

instance (p : Prog) (o : Op) : Decidable (OpOk p o) := by unfold OpOk; exact inferInstance

instance (p : Prog) : Decidable (ProgOk p) := decidable_of_iff (within p.sems 1 9 ∧ within p.groups 0 9 ∧ within p.barriers 1 6 ∧ within p.rooms 0 4 ∧ 1 ≤ p.threads.length ∧ p.threads.length ≤ 4 ∧ ∀ t ∈ p.threads, t.length ≤ 8 ∧ ∀ o ∈ t, OpOk p o)
  ⟨fun ⟨a, b, c, d, e, f, g⟩ => ⟨a, b, c, d, e, f, g⟩, fun ⟨a, b, c, d, e, f, g⟩ => ⟨a, b, c, d, e, f, g⟩⟩

end Go.Proofs.YtchkcjeeknfchaaGreatDoor

namespace Go.Proofs.YtchkcjeeknfchaaGreatDoor

open Go Go.Sx Go.RowKit

/-- What stands behind a thread's place. -/
def signM (t : Int) : Str := if t = 1 then [63] else if t = 2 then [33] else if t = 3 then [46] else []

/-- The name of a fault. -/
def faultW (f : Int) : Str := if f = 1 then [114, 101, 108, 101, 97, 115, 101] else if f = 2 then [97, 100, 100] else if f = 3 then [115, 101, 110, 100] else if f = 4 then [99, 108, 111, 115, 101] else []

/-- Words with a space between any two. -/
def joinM : List Str → Str
  | [] => []
  | [x] => x
  | x :: y :: r => x ++ 32 :: joinM (y :: r)

theorem joinM_snoc (x : Str) : ∀ {xs : List Str}, xs ≠ [] → joinM (xs ++ [x]) = joinM xs ++ 32 :: x
  | [], h => absurd rfl h
  | [y], _ => rfl
  | y :: z :: r, _ => by
    have ih := joinM_snoc x (xs := z :: r) (by simp)
    show y ++ 32 :: joinM (z :: r ++ [x]) = (y ++ 32 :: joinM (z :: r)) ++ 32 :: x
    rw [ih, List.append_assoc]; rfl

def placeM (a t : Int) : Str := decM a ++ signM t

def placesM : List Int → List Int → List Str
  | a :: ps, t :: ts => placeM a t :: placesM ps ts
  | _, _ => []

def tailM (s : State) : List Str := s.said.map decM ++ (if s.fault = 0 then [] else [[102, 97, 117, 108, 116], faultW s.fault])

/-- A state's text. -/
def textM (s : State) : Str := joinM (placesM s.places s.status ++ [124] :: tailM s)

theorem placesM_len : ∀ {ps ts : List Int}, ps.length = ts.length → (placesM ps ts).length = ps.length
  | [], _, _ => by simp [placesM]
  | a :: ps, [], h => by simp at h
  | a :: ps, t :: ts, h => by rw [placesM, List.length_cons, placesM_len (by simpa using h), List.length_cons]

theorem placesM_get : ∀ {ps ts : List Int} (_h : ps.length = ts.length) {i : Nat} (h1 : i < ps.length) (h2 : i < ts.length), (placesM ps ts)[i]? = some (placeM ps[i] ts[i])
  | a :: ps, t :: ts, h, 0, _, _ => rfl
  | a :: ps, t :: ts, h, i + 1, h1, h2 => by
    rw [placesM, List.getElem?_cons_succ, placesM_get (by simpa using h) (by simpa using h1) (by simpa using h2)]; rfl

end Go.Proofs.YtchkcjeeknfchaaGreatDoor

namespace Go.Proofs.YtchkcjeeknfchaaGreatDoor

open Go Go.Sx Go.RowKit

theorem join_eq : ∀ xs : List Str, Lib.join xs [32] = joinM xs
  | [] => rfl
  | [x] => by simp [Lib.join, joinM, List.intercalate]
  | x :: y :: r => by
    have ih := join_eq (y :: r)
    rw [Lib.join] at ih ⊢
    rw [joinM, ← ih]
    simp [List.intercalate]

theorem dec_small {i : Nat} (h : i < 100) : Lib.decDigits i = decM (i : Int) := by
  rw [decM, if_neg (by omega), Int.toNat_natCast, decG]
  by_cases h9 : 9 < i
  · rw [if_pos h9, decG, if_neg (by omega), Lib.decDigits, dif_neg (by omega), Lib.decDigits, dif_pos (by omega)]; rfl
  · rw [if_neg h9, Lib.decDigits, dif_pos (by omega)]

end Go.Proofs.YtchkcjeeknfchaaGreatDoor

namespace Go.Proofs.YtchkcjeeknfchaaGreatDoor

open Go Go.Sx Go.RowKit

def signsL : List Str := [[], [63], [33], [46]]

def faultsL : List Str := [[], [114, 101, 108, 101, 97, 115, 101], [97, 100, 100], [115, 101, 110, 100], [99, 108, 111, 115, 101]]

theorem signsL_get (t : Int) (h0 : 0 ≤ t) (h3 : t ≤ 3) : ∃ (j : Nat) (h : j < signsL.length), t = j ∧ signsL[j] = signM t := by
  obtain rfl | rfl | rfl | rfl : t = 0 ∨ t = 1 ∨ t = 2 ∨ t = 3 := by omega
  · exact ⟨0, by decide, rfl, rfl⟩
  · exact ⟨1, by decide, rfl, rfl⟩
  · exact ⟨2, by decide, rfl, rfl⟩
  · exact ⟨3, by decide, rfl, rfl⟩

theorem faultsL_get (t : Int) (h0 : 0 ≤ t) (h3 : t ≤ 4) : ∃ (j : Nat) (h : j < faultsL.length), t = j ∧ faultsL[j] = faultW t := by
  obtain rfl | rfl | rfl | rfl | rfl : t = 0 ∨ t = 1 ∨ t = 2 ∨ t = 3 ∨ t = 4 := by omega
  · exact ⟨0, by decide, rfl, rfl⟩
  · exact ⟨1, by decide, rfl, rfl⟩
  · exact ⟨2, by decide, rfl, rfl⟩
  · exact ⟨3, by decide, rfl, rfl⟩
  · exact ⟨4, by decide, rfl, rfl⟩

theorem signM_len (t : Int) : (signM t).length ≤ 1 := by
  rw [signM]
  repeat' split
  all_goals decide

theorem faultW_len (t : Int) : (faultW t).length ≤ 7 := by
  rw [faultW]
  repeat' split
  all_goals decide

/-- What a state that fits holds. -/
structure TextOk (s : StateH) : Prop where
  len : s.places.length = s.status.length
  l1 : 1 ≤ s.places.length
  l4 : s.places.length ≤ 4
  at_ : ∀ (i : Nat) (h1 : i < s.places.length) (h2 : i < s.status.length), (0 ≤ s.places[i] ∧ s.places[i] ≤ 8) ∧ 0 ≤ s.status[i] ∧ s.status[i] ≤ 3
  l64 : s.said.length ≤ 64
  said : ∀ (i : Nat) (h : i < s.said.length), 0 ≤ s.said[i] ∧ s.said[i] ≤ 99
  f0 : 0 ≤ s.fault
  f4 : s.fault ≤ 4

theorem Fits.textOk {p : ProgH} {s : StateH} (f : Fits p.pure s.pure) : TextOk s := by
  have np : s.places.length = p.pure.threads.length := f.np
  have ns : s.status.length = p.pure.threads.length := f.ns
  have n1 := f.prog.n1
  have n4 := f.prog.n4
  refine ⟨by omega, by omega, by omega, fun i h1 h2 => ?_, f.lsaid, fun i h => ?_, f.f0, f.f4⟩
  · have hl : i < p.pure.threads.length := by omega
    have hth : p.pure.threads[i]? = some p.pure.threads[i] := List.getElem?_eq_getElem hl
    obtain ⟨a0, a1, hc⟩ := f.threads i _ _ _ hth (List.getElem?_eq_getElem h1) (List.getElem?_eq_getElem h2)
    have l8 := (f.prog.ops _ (List.mem_of_getElem? hth)).1
    refine ⟨⟨a0, by omega⟩, ?_⟩
    rcases hc with ⟨_, e, _⟩ | ⟨_, _, ⟨e, _⟩ | ⟨e, _⟩ | ⟨e, _⟩⟩ <;> omega
  · have := f.said _ (List.getElem_mem h)
    simp only [isValue, Bool.and_eq_true, decide_eq_true_eq] at this
    exact this

theorem places_take {ps ts : List Int} (h : ps.length = ts.length) {i : Nat} (h1 : i < ps.length) (h2 : i < ts.length) : (placesM ps ts).take (i + 1) = (placesM ps ts).take i ++ [placeM ps[i] ts[i]] := by
  have hg := placesM_get h h1 h2
  have hl : i < (placesM ps ts).length := by rw [placesM_len h]; exact h1
  rw [List.take_succ_eq_append_getElem hl]
  rw [List.getElem?_eq_getElem hl] at hg
  rw [Option.some.inj hg]

theorem join_next {xs : List Str} (x : Str) {n : Nat} (h : xs.length = n) : joinM (xs ++ [x]) = (if n = 0 then joinM xs else joinM xs ++ [32]) ++ x := by
  by_cases h0 : n = 0
  · obtain rfl : xs = [] := List.eq_nil_of_length_eq_zero (by omega)
    rw [if_pos h0]; rfl
  · rw [if_neg h0, joinM_snoc x (fun e => by subst e; simp at h; omega)]; simp

theorem join_two (x y : Str) {xs : List Str} (h : xs ≠ []) : joinM (xs ++ [x, y]) = joinM xs ++ ([32] ++ x ++ [32] ++ y) := by
  have e : xs ++ [x, y] = (xs ++ [x]) ++ [y] := by simp
  rw [e, joinM_snoc y (by simp), joinM_snoc x h]; simp

/-- The words before the fault. -/
def wordsA (s : State) : List Str := placesM s.places s.status ++ [124] :: s.said.map decM

theorem textM_eq (s : State) : textM s = joinM (wordsA s ++ if s.fault = 0 then [] else [[102, 97, 117, 108, 116], faultW s.fault]) := by
  rw [textM, tailM, wordsA]; simp

end Go.Proofs.YtchkcjeeknfchaaGreatDoor

namespace Go.Proofs.YtchkcjeeknfchaaGreatDoor

open Go Go.Sx Go.RowKit

set_option maxHeartbeats 2000000 in
set_option maxRecDepth 100000 in
theorem validS_c (m : Chan) (i s g : Sl) (w : World) (h : At w [slo i cInt 1 m.items, slo s cLet 2 m.senders, slo g cInt 1 m.getters]) (hb : m.small) :
    Calls Tryz.prog 96 #[chanV m i s g] w (Ret w fun v L => v = .bool m.valid ∧ L = []) := by
  obtain ⟨b1, b2, b3⟩ := hb
  have bT : m.threads.length ≤ 8589934592 := by simp [Chan.threads]; omega
  have hno : ∀ {P : Prop}, ¬ P → (m.Valid → P) → ∀ A, resV A [SV.lit false] = Value.bool m.valid := fun h1 h2 _ => Chan.invalid fun hv => h1 (h2 hv)
  refine calls1 Tryz.func96 rfl tabOk w _ rfl _ rfl _ h ⟨rfl, rfl, rfl, rfl, rfl, rfl, trivial⟩ _ (by decide) ?_
  refine CaseB.mk (fun h1 => ?_) (fun h1 => ?_)
  · exact retw [] ⟨rfl, rfl⟩ trivial rfl trivial (hno (by simp at h1; omega) Chan.Valid.r0)
  · have r0 : 0 ≤ m.room := by simp at h1; omega
    refine CaseB.mk (fun h2 => ?_) (fun h2 => ?_)
    · exact retw [] ⟨rfl, rfl⟩ trivial rfl trivial (hno (by simp at h2; omega) Chan.Valid.r1)
    · have r1 : m.room ≤ 4 := by simp at h2; omega
      refine CaseB.mk (fun h3 => ?_) (fun h3 => ?_)
      · exact retw [] ⟨rfl, rfl⟩ trivial rfl trivial (hno (by simp at h3; omega) Chan.Valid.it)
      · have it : (m.items.length : Int) ≤ m.room := by simp at h3; omega
        refine CaseB.mk (fun h4 => ?_) (fun h4 => ?_)
        · exact retw [] ⟨rfl, rfl⟩ trivial rfl trivial (hno (P := m.senders.length ≤ 6) (by simp at h4; omega) (fun hv => by have := distinct_len hv.di; simp [Chan.threads] at this; omega))
        refine CaseB.mk (fun h5 => ?_) (fun h5 => ?_)
        · exact retw [] ⟨rfl, rfl⟩ trivial rfl trivial (hno (P := m.getters.length ≤ 6) (by simp at h5; omega) (fun hv => by have := distinct_len hv.di; simp [Chan.threads] at this; omega))
        have e7 : m.senders.take 7 = m.senders := List.take_of_length_le (by simp at h4; omega)
        refine LoopW.mk ⟨{ k : Nat // k ≤ m.items.length ∧ ∀ x ∈ m.items.take k, isValue x = true },
          fun p => .mk [(1, .p 0 0), (3, .v (.int .i64 p.1))] 1 0 [(0, 95, 5)] [((0, 0), .v (.int .i64 m.room)), ((0, 1), .v (i.val m.items.length)), ((0, 2), .v (s.val m.senders.length)), ((0, 3), .v (g.val m.getters.length)), ((0, 4), .v (.bool m.closed))] [slo i cInt 1 m.items, slo s cLet 2 m.senders, slo g cInt 1 m.getters],
          fun p => m.items.length - p.1, ⟨0, Nat.zero_le _, by simp⟩, ?_, ?_⟩
        · refine weak_mk [0, 1, 2] ?_ ?_ ?_ ?_ ?_ rfl rfl
          · repeat (first | exact trivial | refine ⟨⟨_, rfl, (by first | exact .of rfl | exact .lit rfl | exact .of (by first | (rfl)) | exact .lit (by first | (rfl))), (by first | exact trivial | exact Nat.le_of_ble_eq_true rfl | exact small1 rfl)⟩, ?_⟩)
          · repeat (first | exact trivial | refine ⟨⟨(by first | exact .head _ | exact .tail _ (.head _) | exact .tail _ (.tail _ (.head _)) | exact .tail _ (.tail _ (.tail _ (.head _))) | exact .tail _ (.tail _ (.tail _ (.tail _ (.head _)))) | exact .tail _ (.tail _ (.tail _ (.tail _ (.tail _ (.head _))))) | exact .tail _ (.tail _ (.tail _ (.tail _ (.tail _ (.tail _ (.head _)))))) | exact .tail _ (.tail _ (.tail _ (.tail _ (.tail _ (.tail _ (.tail _ (.head _))))))) | exact .tail _ (.tail _ (.tail _ (.tail _ (.tail _ (.tail _ (.tail _ (.tail _ (.head _)))))))) | exact .tail _ (.tail _ (.tail _ (.tail _ (.tail _ (.tail _ (.tail _ (.tail _ (.tail _ (.head _)))))))))), Nat.le_of_ble_eq_true rfl⟩, ?_⟩)
          · repeat (first | exact trivial | refine ⟨⟨_, rfl, (by first | exact .of rfl | exact .lit rfl | exact .of (by first | (rfl)) | exact .lit (by first | (rfl))), (by first | exact trivial | exact Nat.le_of_ble_eq_true rfl | exact small1 rfl)⟩, ?_⟩)
          · repeat (first | exact trivial | refine ⟨⟨_, rfl⟩, ?_⟩)
          · repeat (first | exact trivial | refine ⟨.inl ⟨_, rfl, (by first | rfl | (rfl))⟩, ?_⟩ | refine ⟨.inr ⟨Nat.le_of_ble_eq_true rfl, rfl, rfl, rfl, rfl⟩, ?_⟩)
        · rintro ⟨k, hk, ha⟩
          refine CaseB.mk (fun h => ?_) (fun h => ?_)
          · have hlt : k < m.items.length := by simpa using h
            refine stop_idx encInt tabOk rfl rfl rfl rfl rfl ⟨rfl, rfl⟩ (by first | exact rdAt 0 rfl | exact rdOwnAt 0 rfl | exact rdAt 1 rfl | exact rdOwnAt 1 rfl | exact rdAt 2 rfl | exact rdOwnAt 2 rfl | exact rdAt 3 rfl | exact rdOwnAt 3 rfl | exact rdAt 4 rfl | exact rdOwnAt 4 rfl | exact rdAt 5 rfl | exact rdOwnAt 5 rfl | exact rdAt 6 rfl | exact rdOwnAt 6 rfl | exact rdAt 7 rfl | exact rdOwnAt 7 rfl | exact rdAt 8 rfl | exact rdOwnAt 8 rfl | exact rdAt 9 rfl | exact rdOwnAt 9 rfl | exact rdAt 10 rfl | exact rdOwnAt 10 rfl | exact rdAt 11 rfl | exact rdOwnAt 11 rfl | exact rdAt 12 rfl | exact rdOwnAt 12 rfl | exact rdAt 13 rfl | exact rdOwnAt 13 rfl | exact rdAt 14 rfl | exact rdOwnAt 14 rfl | exact rdAt 15 rfl | exact rdOwnAt 15 rfl | exact rdAt 16 rfl | exact rdOwnAt 16 rfl | exact rdAt 17 rfl | exact rdOwnAt 17 rfl | exact rdAt 18 rfl | exact rdOwnAt 18 rfl | exact rdAt 19 rfl | exact rdOwnAt 19 rfl | exact rdAt 20 rfl | exact rdOwnAt 20 rfl | exact rdAt 21 rfl | exact rdOwnAt 21 rfl | exact rdAt 22 rfl | exact rdOwnAt 22 rfl | exact rdAt 23 rfl | exact rdOwnAt 23 rfl) k rfl (by first | omega | (simp; done) | (simp; omega) | (unfold maxLen; omega) | (unfold maxLen; simp; done) | (unfold maxLen; simp; omega)) (fun ad => ?_)
            refine stop_call _ cl51 rfl rfl rfl rfl ⟨rfl, rfl⟩ (fun A w hW => l2Value_c _ w) ?_
            rintro v L ⟨rfl, rfl⟩
            refine CaseB.mk (fun h => ?_) (fun h => ?_)
            · exact retw [] ⟨rfl, rfl⟩ trivial rfl trivial (hno (by simpa using h) (fun hv => hv.iv _ (List.getElem_mem hlt)))
            · have hw := wrapN k _ hlt b1
              refine ⟨⟨k + 1, by omega, all_take_succ hlt ha (by simpa using h)⟩, ?_, by simp; omega⟩
              refine weak_mk [0, 1, 2] ?_ ?_ ?_ ?_ ?_ rfl rfl
              · repeat (first | exact trivial | refine ⟨⟨_, rfl, (by first | exact .of rfl | exact .lit rfl | exact .of (by first | ((exact congrArg (fun z => SV.v (Value.int .i64 z)) hw))) | exact .lit (by first | ((exact congrArg (fun z => SV.v (Value.int .i64 z)) hw)))), (by first | exact trivial | exact Nat.le_of_ble_eq_true rfl | exact small1 rfl)⟩, ?_⟩)
              · repeat (first | exact trivial | refine ⟨⟨(by first | exact .head _ | exact .tail _ (.head _) | exact .tail _ (.tail _ (.head _)) | exact .tail _ (.tail _ (.tail _ (.head _))) | exact .tail _ (.tail _ (.tail _ (.tail _ (.head _)))) | exact .tail _ (.tail _ (.tail _ (.tail _ (.tail _ (.head _))))) | exact .tail _ (.tail _ (.tail _ (.tail _ (.tail _ (.tail _ (.head _)))))) | exact .tail _ (.tail _ (.tail _ (.tail _ (.tail _ (.tail _ (.tail _ (.head _))))))) | exact .tail _ (.tail _ (.tail _ (.tail _ (.tail _ (.tail _ (.tail _ (.tail _ (.head _)))))))) | exact .tail _ (.tail _ (.tail _ (.tail _ (.tail _ (.tail _ (.tail _ (.tail _ (.tail _ (.head _)))))))))), Nat.le_of_ble_eq_true rfl⟩, ?_⟩)
              · repeat (first | exact trivial | refine ⟨⟨_, rfl, (by first | exact .of rfl | exact .lit rfl | exact .of (by first | ((exact congrArg (fun z => SV.v (Value.int .i64 z)) hw))) | exact .lit (by first | ((exact congrArg (fun z => SV.v (Value.int .i64 z)) hw)))), (by first | exact trivial | exact Nat.le_of_ble_eq_true rfl | exact small1 rfl)⟩, ?_⟩)
              · repeat (first | exact trivial | refine ⟨⟨_, rfl⟩, ?_⟩)
              · repeat (first | exact trivial | refine ⟨.inl ⟨_, rfl, (by first | rfl | ((exact congrArg (fun z => SV.v (Value.int .i64 z)) hw)))⟩, ?_⟩ | refine ⟨.inr ⟨Nat.le_of_ble_eq_true rfl, rfl, rfl, rfl, rfl⟩, ?_⟩)
          · have hge : m.items.length ≤ k := by simpa using h
            rw [List.take_of_length_le hge] at ha
            refine LoopW.mk ⟨{ k : Nat // k ≤ m.senders.length ∧ ∀ x ∈ m.senders.take k, isValue x.v = true },
              fun p => .mk [(1, .p 0 0), (4, .v (.int .i64 p.1))] 1 0 [(0, 95, 5)] [((0, 0), .v (.int .i64 m.room)), ((0, 1), .v (i.val m.items.length)), ((0, 2), .v (s.val m.senders.length)), ((0, 3), .v (g.val m.getters.length)), ((0, 4), .v (.bool m.closed))] [slo i cInt 1 m.items, slo s cLet 2 m.senders, slo g cInt 1 m.getters],
              fun p => m.senders.length - p.1, ⟨0, Nat.zero_le _, by simp⟩, ?_, ?_⟩
            · refine weak_mk [0, 1, 2] ?_ ?_ ?_ ?_ ?_ rfl rfl
              · repeat (first | exact trivial | refine ⟨⟨_, rfl, (by first | exact .of rfl | exact .lit rfl | exact .of (by first | (rfl)) | exact .lit (by first | (rfl))), (by first | exact trivial | exact Nat.le_of_ble_eq_true rfl | exact small1 rfl)⟩, ?_⟩)
              · repeat (first | exact trivial | refine ⟨⟨(by first | exact .head _ | exact .tail _ (.head _) | exact .tail _ (.tail _ (.head _)) | exact .tail _ (.tail _ (.tail _ (.head _))) | exact .tail _ (.tail _ (.tail _ (.tail _ (.head _)))) | exact .tail _ (.tail _ (.tail _ (.tail _ (.tail _ (.head _))))) | exact .tail _ (.tail _ (.tail _ (.tail _ (.tail _ (.tail _ (.head _)))))) | exact .tail _ (.tail _ (.tail _ (.tail _ (.tail _ (.tail _ (.tail _ (.head _))))))) | exact .tail _ (.tail _ (.tail _ (.tail _ (.tail _ (.tail _ (.tail _ (.tail _ (.head _)))))))) | exact .tail _ (.tail _ (.tail _ (.tail _ (.tail _ (.tail _ (.tail _ (.tail _ (.tail _ (.head _)))))))))), Nat.le_of_ble_eq_true rfl⟩, ?_⟩)
              · repeat (first | exact trivial | refine ⟨⟨_, rfl, (by first | exact .of rfl | exact .lit rfl | exact .of (by first | (rfl)) | exact .lit (by first | (rfl))), (by first | exact trivial | exact Nat.le_of_ble_eq_true rfl | exact small1 rfl)⟩, ?_⟩)
              · repeat (first | exact trivial | refine ⟨⟨_, rfl⟩, ?_⟩)
              · repeat (first | exact trivial | refine ⟨.inl ⟨_, rfl, (by first | rfl | (rfl))⟩, ?_⟩ | refine ⟨.inr ⟨Nat.le_of_ble_eq_true rfl, rfl, rfl, rfl, rfl⟩, ?_⟩)
            · rintro ⟨k, hk, hs⟩
              refine CaseB.mk (fun h => ?_) (fun h => ?_)
              · have hlt : k < m.senders.length := by simpa using h
                refine stop_idx encLet tabOk rfl rfl rfl rfl rfl ⟨rfl, rfl⟩ (by first | exact rdAt 0 rfl | exact rdOwnAt 0 rfl | exact rdAt 1 rfl | exact rdOwnAt 1 rfl | exact rdAt 2 rfl | exact rdOwnAt 2 rfl | exact rdAt 3 rfl | exact rdOwnAt 3 rfl | exact rdAt 4 rfl | exact rdOwnAt 4 rfl | exact rdAt 5 rfl | exact rdOwnAt 5 rfl | exact rdAt 6 rfl | exact rdOwnAt 6 rfl | exact rdAt 7 rfl | exact rdOwnAt 7 rfl | exact rdAt 8 rfl | exact rdOwnAt 8 rfl | exact rdAt 9 rfl | exact rdOwnAt 9 rfl | exact rdAt 10 rfl | exact rdOwnAt 10 rfl | exact rdAt 11 rfl | exact rdOwnAt 11 rfl | exact rdAt 12 rfl | exact rdOwnAt 12 rfl | exact rdAt 13 rfl | exact rdOwnAt 13 rfl | exact rdAt 14 rfl | exact rdOwnAt 14 rfl | exact rdAt 15 rfl | exact rdOwnAt 15 rfl | exact rdAt 16 rfl | exact rdOwnAt 16 rfl | exact rdAt 17 rfl | exact rdOwnAt 17 rfl | exact rdAt 18 rfl | exact rdOwnAt 18 rfl | exact rdAt 19 rfl | exact rdOwnAt 19 rfl | exact rdAt 20 rfl | exact rdOwnAt 20 rfl | exact rdAt 21 rfl | exact rdOwnAt 21 rfl | exact rdAt 22 rfl | exact rdOwnAt 22 rfl | exact rdAt 23 rfl | exact rdOwnAt 23 rfl) k rfl (by first | omega | (simp; done) | (simp; omega) | (unfold maxLen; omega) | (unfold maxLen; simp; done) | (unfold maxLen; simp; omega)) (fun ad => ?_)
                refine stop_call _ cl51 rfl rfl rfl rfl ⟨rfl, rfl⟩ (fun A w hW => l2Value_c _ w) ?_
                rintro v L ⟨rfl, rfl⟩
                refine CaseB.mk (fun h => ?_) (fun h => ?_)
                · exact retw [] ⟨rfl, rfl⟩ trivial rfl trivial (hno (by simpa using h) (fun hv => hv.sv _ (List.getElem_mem hlt)))
                · have hw := wrapN k _ hlt b2
                  refine ⟨⟨k + 1, by omega, all_take_succ (p := fun l : Letter => isValue l.v = true) hlt hs (by simpa using h)⟩, ?_, by simp; omega⟩
                  refine weak_mk [0, 1, 2] ?_ ?_ ?_ ?_ ?_ rfl rfl
                  · repeat (first | exact trivial | refine ⟨⟨_, rfl, (by first | exact .of rfl | exact .lit rfl | exact .of (by first | ((exact congrArg (fun z => SV.v (Value.int .i64 z)) hw))) | exact .lit (by first | ((exact congrArg (fun z => SV.v (Value.int .i64 z)) hw)))), (by first | exact trivial | exact Nat.le_of_ble_eq_true rfl | exact small1 rfl)⟩, ?_⟩)
                  · repeat (first | exact trivial | refine ⟨⟨(by first | exact .head _ | exact .tail _ (.head _) | exact .tail _ (.tail _ (.head _)) | exact .tail _ (.tail _ (.tail _ (.head _))) | exact .tail _ (.tail _ (.tail _ (.tail _ (.head _)))) | exact .tail _ (.tail _ (.tail _ (.tail _ (.tail _ (.head _))))) | exact .tail _ (.tail _ (.tail _ (.tail _ (.tail _ (.tail _ (.head _)))))) | exact .tail _ (.tail _ (.tail _ (.tail _ (.tail _ (.tail _ (.tail _ (.head _))))))) | exact .tail _ (.tail _ (.tail _ (.tail _ (.tail _ (.tail _ (.tail _ (.tail _ (.head _)))))))) | exact .tail _ (.tail _ (.tail _ (.tail _ (.tail _ (.tail _ (.tail _ (.tail _ (.tail _ (.head _)))))))))), Nat.le_of_ble_eq_true rfl⟩, ?_⟩)
                  · repeat (first | exact trivial | refine ⟨⟨_, rfl, (by first | exact .of rfl | exact .lit rfl | exact .of (by first | ((exact congrArg (fun z => SV.v (Value.int .i64 z)) hw))) | exact .lit (by first | ((exact congrArg (fun z => SV.v (Value.int .i64 z)) hw)))), (by first | exact trivial | exact Nat.le_of_ble_eq_true rfl | exact small1 rfl)⟩, ?_⟩)
                  · repeat (first | exact trivial | refine ⟨⟨_, rfl⟩, ?_⟩)
                  · repeat (first | exact trivial | refine ⟨.inl ⟨_, rfl, (by first | rfl | ((exact congrArg (fun z => SV.v (Value.int .i64 z)) hw)))⟩, ?_⟩ | refine ⟨.inr ⟨Nat.le_of_ble_eq_true rfl, rfl, rfl, rfl, rfl⟩, ?_⟩)
              · have hge : m.senders.length ≤ k := by simpa using h
                rw [List.take_of_length_le hge] at hs
                refine draw_start tabOk (by kernel_rfl) (by kernel_rfl) (by kernel_rfl) 200 [((0, 2), .v (s.val m.senders.length)), ((0, 3), .v (g.val m.getters.length))] [0, 1, 2] [_, _, _] ⟨⟨_, rfl, rfl, (by first | exact trivial | exact Nat.le_of_ble_eq_true rfl)⟩, ⟨_, rfl, rfl, (by first | exact trivial | exact Nat.le_of_ble_eq_true rfl)⟩, trivial⟩ ⟨⟨_, rfl⟩, ⟨_, rfl⟩, trivial⟩ ⟨rfl, rfl, rfl, trivial⟩ rfl ?_
                refine d_call _ cl97 rfl rfl rfl rfl ⟨rfl, rfl⟩ (fun A w hW => l5Threads_c s m.senders w ⟨(by first | exact hW.rd 0 rfl | exact hW.rdOwn 0 rfl | exact hW.rd 1 rfl | exact hW.rdOwn 1 rfl | exact hW.rd 2 rfl | exact hW.rdOwn 2 rfl | exact hW.rd 3 rfl | exact hW.rdOwn 3 rfl | exact hW.rd 4 rfl | exact hW.rdOwn 4 rfl | exact hW.rd 5 rfl | exact hW.rdOwn 5 rfl | exact hW.rd 6 rfl | exact hW.rdOwn 6 rfl | exact hW.rd 7 rfl | exact hW.rdOwn 7 rfl | exact hW.rd 8 rfl | exact hW.rdOwn 8 rfl | exact hW.rd 9 rfl | exact hW.rdOwn 9 rfl | exact hW.rd 10 rfl | exact hW.rdOwn 10 rfl | exact hW.rd 11 rfl | exact hW.rdOwn 11 rfl | exact hW.rd 12 rfl | exact hW.rdOwn 12 rfl | exact hW.rd 13 rfl | exact hW.rdOwn 13 rfl | exact hW.rd 14 rfl | exact hW.rdOwn 14 rfl | exact hW.rd 15 rfl | exact hW.rdOwn 15 rfl | exact hW.rd 16 rfl | exact hW.rdOwn 16 rfl | exact hW.rd 17 rfl | exact hW.rdOwn 17 rfl | exact hW.rd 18 rfl | exact hW.rdOwn 18 rfl | exact hW.rd 19 rfl | exact hW.rdOwn 19 rfl | exact hW.rd 20 rfl | exact hW.rdOwn 20 rfl | exact hW.rd 21 rfl | exact hW.rdOwn 21 rfl | exact hW.rd 22 rfl | exact hW.rdOwn 22 rfl | exact hW.rd 23 rfl | exact hW.rdOwn 23 rfl), trivial⟩ b2) ?_
                rw [e7]
                rintro v L ⟨y, rfl, rfl⟩
                refine d_appK (ti := tiOf tab) encInt tabOk  rfl rfl rfl rfl rfl rfl rfl rfl rfl (by decide) ⟨rfl, rfl⟩ (by first | exact isAt 0 rfl | exact isAt 1 rfl | exact isAt 2 rfl | exact isAt 3 rfl | exact isAt 4 rfl | exact isAt 5 rfl | exact isAt 6 rfl | exact isAt 7 rfl | exact isAt 8 rfl | exact isAt 9 rfl | exact isAt 10 rfl | exact isAt 11 rfl) (by first | exact rdAt 0 rfl | exact rdOwnAt 0 rfl | exact rdAt 1 rfl | exact rdOwnAt 1 rfl | exact rdAt 2 rfl | exact rdOwnAt 2 rfl | exact rdAt 3 rfl | exact rdOwnAt 3 rfl | exact rdAt 4 rfl | exact rdOwnAt 4 rfl | exact rdAt 5 rfl | exact rdOwnAt 5 rfl | exact rdAt 6 rfl | exact rdOwnAt 6 rfl | exact rdAt 7 rfl | exact rdOwnAt 7 rfl | exact rdAt 8 rfl | exact rdOwnAt 8 rfl | exact rdAt 9 rfl | exact rdOwnAt 9 rfl | exact rdAt 10 rfl | exact rdOwnAt 10 rfl | exact rdAt 11 rfl | exact rdOwnAt 11 rfl | exact rdAt 12 rfl | exact rdOwnAt 12 rfl | exact rdAt 13 rfl | exact rdOwnAt 13 rfl | exact rdAt 14 rfl | exact rdOwnAt 14 rfl | exact rdAt 15 rfl | exact rdOwnAt 15 rfl | exact rdAt 16 rfl | exact rdOwnAt 16 rfl | exact rdAt 17 rfl | exact rdOwnAt 17 rfl | exact rdAt 18 rfl | exact rdOwnAt 18 rfl | exact rdAt 19 rfl | exact rdOwnAt 19 rfl | exact rdAt 20 rfl | exact rdOwnAt 20 rfl | exact rdAt 21 rfl | exact rdOwnAt 21 rfl | exact rdAt 22 rfl | exact rdOwnAt 22 rfl | exact rdAt 23 rfl | exact rdOwnAt 23 rfl) (by first | omega | (simp; done) | (simp; omega) | (unfold maxLen; omega) | (unfold maxLen; simp; done) | (unfold maxLen; simp; omega)) (by first | omega | (simp; done) | (simp; omega) | (unfold maxLen; omega) | (unfold maxLen; simp; done) | (unfold maxLen; simp; omega)) (by simp [keepF]) (fun z => ?_)
                refine d_call _ cl123 rfl rfl rfl rfl ⟨rfl, rfl⟩ (fun A w hW => l2Waits_c z m.threads w ⟨(by first | exact hW.rd 0 rfl | exact hW.rdOwn 0 rfl | exact hW.rd 1 rfl | exact hW.rdOwn 1 rfl | exact hW.rd 2 rfl | exact hW.rdOwn 2 rfl | exact hW.rd 3 rfl | exact hW.rdOwn 3 rfl | exact hW.rd 4 rfl | exact hW.rdOwn 4 rfl | exact hW.rd 5 rfl | exact hW.rdOwn 5 rfl | exact hW.rd 6 rfl | exact hW.rdOwn 6 rfl | exact hW.rd 7 rfl | exact hW.rdOwn 7 rfl | exact hW.rd 8 rfl | exact hW.rdOwn 8 rfl | exact hW.rd 9 rfl | exact hW.rdOwn 9 rfl | exact hW.rd 10 rfl | exact hW.rdOwn 10 rfl | exact hW.rd 11 rfl | exact hW.rdOwn 11 rfl | exact hW.rd 12 rfl | exact hW.rdOwn 12 rfl | exact hW.rd 13 rfl | exact hW.rdOwn 13 rfl | exact hW.rd 14 rfl | exact hW.rdOwn 14 rfl | exact hW.rd 15 rfl | exact hW.rdOwn 15 rfl | exact hW.rd 16 rfl | exact hW.rdOwn 16 rfl | exact hW.rd 17 rfl | exact hW.rdOwn 17 rfl | exact hW.rd 18 rfl | exact hW.rdOwn 18 rfl | exact hW.rd 19 rfl | exact hW.rdOwn 19 rfl | exact hW.rd 20 rfl | exact hW.rdOwn 20 rfl | exact hW.rd 21 rfl | exact hW.rdOwn 21 rfl | exact hW.rd 22 rfl | exact hW.rdOwn 22 rfl | exact hW.rd 23 rfl | exact hW.rdOwn 23 rfl), trivial⟩ bT) ?_
                rintro v L ⟨rfl, rfl⟩
                refine CaseB.mk (fun h => ?_) (fun h => ?_)
                · exact retw [] ⟨rfl, rfl⟩ trivial rfl trivial (hno (by simpa using h) Chan.Valid.di)
                · have hd : distinct m.threads = true := by simpa using h
                  have fin : (m.senders ≠ [] → (m.items.length : Int) = m.room ∧ m.getters = [] ∧ m.closed = false) → (m.getters ≠ [] → m.items = [] ∧ m.closed = false) → m.Valid := fun x y => ⟨r0, r1, it, ha, hs, hd, x, y⟩
                  refine CaseB.mk (fun q1 => ?_) (fun q1 => ?_)
                  · have hs1 : m.senders ≠ [] := len_pos.1 q1
                    refine CaseB.mk (fun q2 => ?_) (fun q2 => ?_)
                    · exact retw [] ⟨rfl, rfl⟩ trivial rfl trivial (fun _ => Chan.invalid (fun hv => by have := (hv.se hs1).1; simp at q2; omega))
                    · have e2 : (m.items.length : Int) = m.room := by simp at q2; omega
                      refine CaseB.mk (fun q3 => ?_) (fun q3 => ?_)
                      · exact retw [] ⟨rfl, rfl⟩ trivial rfl trivial (fun _ => Chan.invalid (fun hv => len_pos.1 q3 (hv.se hs1).2.1))
                      · have e3 : m.getters = [] := by
                          cases hg : m.getters with
                          | nil => rfl
                          | cons a r => rw [hg] at q3; simp at q3
                        refine CaseB.mk (fun q4 => ?_) (fun q4 => ?_)
                        · exact retw [] ⟨rfl, rfl⟩ trivial rfl trivial (fun _ => Chan.invalid (fun hv => by have := (hv.se hs1).2.2; rw [q4] at this; cases this))
                        · have hS : m.senders ≠ [] → (m.items.length : Int) = m.room ∧ m.getters = [] ∧ m.closed = false := fun _ => ⟨e2, e3, q4⟩
                          refine CaseB.mk (fun q5 => ?_) (fun q5 => ?_)
                          · have hg : m.getters = [] := by simpa using q5
                            exact retw [] ⟨rfl, rfl⟩ trivial rfl trivial (fun _ => Chan.isvalid (fin hS (fun hn => absurd hg hn)))
                          · have hg : m.getters ≠ [] := by simpa using q5
                            refine CaseB.mk (fun q6 => ?_) (fun q6 => ?_)
                            · have hi : m.items = [] := by simpa using q6
                              refine retw [] ⟨rfl, rfl⟩ trivial rfl trivial (fun _ => ?_)
                              show Value.bool (!m.closed) = _
                              cases hc : m.closed with
                              | false => exact Chan.isvalid (fin hS (fun _ => ⟨hi, hc⟩))
                              | true => exact Chan.invalid (fun hv => by have := (hv.ge hg).2; rw [hc] at this; cases this)
                            · have hi : m.items ≠ [] := by simpa using q6
                              exact retw [] ⟨rfl, rfl⟩ trivial rfl trivial (fun _ => Chan.invalid (fun hv => hi (hv.ge hg).1))
                  · have hs1 : m.senders = [] := by
                      cases hg : m.senders with
                      | nil => rfl
                      | cons a r => rw [hg] at q1; simp at q1
                    have hS : m.senders ≠ [] → (m.items.length : Int) = m.room ∧ m.getters = [] ∧ m.closed = false := fun hn => absurd hs1 hn
                    refine CaseB.mk (fun q5 => ?_) (fun q5 => ?_)
                    · have hg : m.getters = [] := by simpa using q5
                      exact retw [] ⟨rfl, rfl⟩ trivial rfl trivial (fun _ => Chan.isvalid (fin hS (fun hn => absurd hg hn)))
                    · have hg : m.getters ≠ [] := by simpa using q5
                      refine CaseB.mk (fun q6 => ?_) (fun q6 => ?_)
                      · have hi : m.items = [] := by simpa using q6
                        refine retw [] ⟨rfl, rfl⟩ trivial rfl trivial (fun _ => ?_)
                        show Value.bool (!m.closed) = _
                        cases hc : m.closed with
                        | false => exact Chan.isvalid (fin hS (fun _ => ⟨hi, hc⟩))
                        | true => exact Chan.invalid (fun hv => by have := (hv.ge hg).2; rw [hc] at this; cases this)
                      · have hi : m.items ≠ [] := by simpa using q6
                        exact retw [] ⟨rfl, rfl⟩ trivial rfl trivial (fun _ => Chan.invalid (fun hv => hi (hv.ge hg).1))

end Go.Proofs.YtchkcjeeknfchaaGreatDoor

namespace Go.Proofs.YtchkcjeeknfchaaGreatDoor

open Go Go.Sx Go.RowKit

set_option maxHeartbeats 4000000 in
set_option maxRecDepth 100000 in
theorem onceValidS_c (m : Once) (q : Sl) (w : World) (h : At w [slo q cInt 1 m.waits]) (hb : m.waits.length ≤ 1048576) :
    Calls Tryz.prog 93 #[onceV m q] w (Tells w (OnceOk m)) := by
  refine calls1 Tryz.func93 rfl tabOk w _ rfl _ rfl _ h ⟨rfl, rfl, trivial⟩ _ (by decide) ?_
  refine CaseB.mk (fun k => ?_) (fun k0 => ?_)
  · have hx := onceOk0 (m := m) (by simpa using k)
    refine CaseB.mk (fun g => ?_) (fun g => ?_)
    rotate_left
    · have q : ¬ (m.owner = 0) := by simpa using g
      exact retw [] ⟨_, rfl, tno fun e => q (hx.1 e).1, rfl⟩ trivial rfl trivial (fun _ => rfl)
    have c1 : m.owner = 0 := by simpa using g
    refine CaseB.mk (fun g => ?_) (fun g => ?_)
    rotate_left
    · have q : ¬ (m.value = 0) := by simpa using g
      exact retw [] ⟨_, rfl, tno fun e => q (hx.1 e).2.1, rfl⟩ trivial rfl trivial (fun _ => rfl)
    have c2 : m.value = 0 := by simpa using g
    exact retw [] ⟨_, rfl, by rw [hx]; simp [c1, c2], rfl⟩ trivial rfl trivial (fun _ => rfl)
  refine CaseB.mk (fun k => ?_) (fun k1 => ?_)
  · have hx := onceOk1 (m := m) (by simpa using k)
    refine stop_call _ cl122 rfl rfl rfl rfl ⟨rfl, rfl⟩ (fun A w hW => l1Thread_c _ w) ?_
    rintro v L ⟨rfl, rfl⟩
    refine CaseB.mk (fun g => ?_) (fun g => ?_)
    rotate_left
    · have q : ¬ (isThread m.owner = true) := by simpa using g
      exact retw [] ⟨_, rfl, tno fun e => q (hx.1 e).1, rfl⟩ trivial rfl trivial (fun _ => rfl)
    have c1 : isThread m.owner = true := g
    refine CaseB.mk (fun g => ?_) (fun g => ?_)
    rotate_left
    · have q : ¬ (m.value = 0) := by simpa using g
      exact retw [] ⟨_, rfl, tno fun e => q (hx.1 e).2.1, rfl⟩ trivial rfl trivial (fun _ => rfl)
    have c2 : m.value = 0 := by simpa using g
    refine stop_call _ cl123 rfl rfl rfl rfl ⟨rfl, rfl⟩ (fun A w hW => l2Waits_c q m.waits w ⟨(by first | exact hW.rd 0 rfl | exact hW.rdOwn 0 rfl | exact hW.rd 1 rfl | exact hW.rdOwn 1 rfl | exact hW.rd 2 rfl | exact hW.rdOwn 2 rfl | exact hW.rd 3 rfl | exact hW.rdOwn 3 rfl | exact hW.rd 4 rfl | exact hW.rdOwn 4 rfl | exact hW.rd 5 rfl | exact hW.rdOwn 5 rfl | exact hW.rd 6 rfl | exact hW.rdOwn 6 rfl | exact hW.rd 7 rfl | exact hW.rdOwn 7 rfl | exact hW.rd 8 rfl | exact hW.rdOwn 8 rfl | exact hW.rd 9 rfl | exact hW.rdOwn 9 rfl | exact hW.rd 10 rfl | exact hW.rdOwn 10 rfl | exact hW.rd 11 rfl | exact hW.rdOwn 11 rfl | exact hW.rd 12 rfl | exact hW.rdOwn 12 rfl | exact hW.rd 13 rfl | exact hW.rdOwn 13 rfl | exact hW.rd 14 rfl | exact hW.rdOwn 14 rfl | exact hW.rd 15 rfl | exact hW.rdOwn 15 rfl | exact hW.rd 16 rfl | exact hW.rdOwn 16 rfl | exact hW.rd 17 rfl | exact hW.rdOwn 17 rfl | exact hW.rd 18 rfl | exact hW.rdOwn 18 rfl | exact hW.rd 19 rfl | exact hW.rdOwn 19 rfl | exact hW.rd 20 rfl | exact hW.rdOwn 20 rfl | exact hW.rd 21 rfl | exact hW.rdOwn 21 rfl | exact hW.rd 22 rfl | exact hW.rdOwn 22 rfl | exact hW.rd 23 rfl | exact hW.rdOwn 23 rfl), trivial⟩ (by omega)) ?_
    rintro v L ⟨rfl, rfl⟩
    refine CaseB.mk (fun g => ?_) (fun g => ?_)
    rotate_left
    · have q : ¬ (distinct m.waits = true) := by simpa using g
      exact retw [] ⟨_, rfl, tno fun e => q (hx.1 e).2.2.1, rfl⟩ trivial rfl trivial (fun _ => rfl)
    have c3 : distinct m.waits = true := g
    refine stop_call _ cl124 rfl rfl rfl rfl ⟨rfl, rfl⟩ (fun A w hW => l2At_c q m.waits m.owner w ⟨(by first | exact hW.rd 0 rfl | exact hW.rdOwn 0 rfl | exact hW.rd 1 rfl | exact hW.rdOwn 1 rfl | exact hW.rd 2 rfl | exact hW.rdOwn 2 rfl | exact hW.rd 3 rfl | exact hW.rdOwn 3 rfl | exact hW.rd 4 rfl | exact hW.rdOwn 4 rfl | exact hW.rd 5 rfl | exact hW.rdOwn 5 rfl | exact hW.rd 6 rfl | exact hW.rdOwn 6 rfl | exact hW.rd 7 rfl | exact hW.rdOwn 7 rfl | exact hW.rd 8 rfl | exact hW.rdOwn 8 rfl | exact hW.rd 9 rfl | exact hW.rdOwn 9 rfl | exact hW.rd 10 rfl | exact hW.rdOwn 10 rfl | exact hW.rd 11 rfl | exact hW.rdOwn 11 rfl | exact hW.rd 12 rfl | exact hW.rdOwn 12 rfl | exact hW.rd 13 rfl | exact hW.rdOwn 13 rfl | exact hW.rd 14 rfl | exact hW.rdOwn 14 rfl | exact hW.rd 15 rfl | exact hW.rdOwn 15 rfl | exact hW.rd 16 rfl | exact hW.rdOwn 16 rfl | exact hW.rd 17 rfl | exact hW.rdOwn 17 rfl | exact hW.rd 18 rfl | exact hW.rdOwn 18 rfl | exact hW.rd 19 rfl | exact hW.rdOwn 19 rfl | exact hW.rd 20 rfl | exact hW.rdOwn 20 rfl | exact hW.rd 21 rfl | exact hW.rdOwn 21 rfl | exact hW.rd 22 rfl | exact hW.rdOwn 22 rfl | exact hW.rd 23 rfl | exact hW.rdOwn 23 rfl), trivial⟩ (by omega)) ?_
    rintro v L ⟨rfl, rfl⟩
    have hm := atM_mem m.waits m.owner
    exact retw [] ⟨_, rfl, by rw [hx, ← hm]; simp [c1, c2, c3], rfl⟩ trivial rfl trivial (fun _ => rfl)
  refine CaseB.mk (fun k => ?_) (fun k2 => ?_)
  · have hx := onceOk2 (m := m) (by simpa using k)
    refine stop_call _ cl122 rfl rfl rfl rfl ⟨rfl, rfl⟩ (fun A w hW => l1Thread_c _ w) ?_
    rintro v L ⟨rfl, rfl⟩
    refine CaseB.mk (fun g => ?_) (fun g => ?_)
    rotate_left
    · have q : ¬ (isThread m.owner = true) := by simpa using g
      exact retw [] ⟨_, rfl, tno fun e => q (hx.1 e).1, rfl⟩ trivial rfl trivial (fun _ => rfl)
    have c1 : isThread m.owner = true := g
    refine stop_call _ cl51 rfl rfl rfl rfl ⟨rfl, rfl⟩ (fun A w hW => l2Value_c _ w) ?_
    rintro v L ⟨rfl, rfl⟩
    refine CaseB.mk (fun g => ?_) (fun g => ?_)
    rotate_left
    · have q : ¬ (isValue m.value = true) := by simpa using g
      exact retw [] ⟨_, rfl, tno fun e => q (hx.1 e).2.1, rfl⟩ trivial rfl trivial (fun _ => rfl)
    have c2 : isValue m.value = true := g
    exact retw [] ⟨_, rfl, by rw [hx]; simp [c1, c2], rfl⟩ trivial rfl trivial (fun _ => rfl)
  exact retw [] ⟨_, rfl, tno (onceOkN (by simpa using k0) (by simpa using k1) (by simpa using k2)), rfl⟩ trivial rfl trivial (fun _ => rfl)

set_option maxRecDepth 100000 in
theorem groupValidS_c (m : Group) (q : Sl) (w : World) (h : At w [slo q cInt 1 m.waits]) (hb : m.waits.length ≤ 1048576) :
    Calls Tryz.prog 94 #[groupV m q] w (Tells w (GroupOk m)) := by
  refine calls1 Tryz.func94 rfl tabOk w _ rfl _ rfl _ h ⟨rfl, rfl, trivial⟩ _ (by decide) ?_
  refine stop_call _ cl51 rfl rfl rfl rfl ⟨rfl, rfl⟩ (fun A w hW => l2Value_c _ w) ?_
  rintro v L ⟨rfl, rfl⟩
  refine CaseB.mk (fun g => ?_) (fun g => ?_)
  rotate_left
  · have q : ¬ (isValue m.count = true) := by simpa using g
    exact retw [] ⟨_, rfl, tno fun e => q e.1, rfl⟩ trivial rfl trivial (fun _ => rfl)
  have c1 : isValue m.count = true := g
  refine stop_call _ cl123 rfl rfl rfl rfl ⟨rfl, rfl⟩ (fun A w hW => l2Waits_c q m.waits w ⟨(by first | exact hW.rd 0 rfl | exact hW.rdOwn 0 rfl | exact hW.rd 1 rfl | exact hW.rdOwn 1 rfl | exact hW.rd 2 rfl | exact hW.rdOwn 2 rfl | exact hW.rd 3 rfl | exact hW.rdOwn 3 rfl | exact hW.rd 4 rfl | exact hW.rdOwn 4 rfl | exact hW.rd 5 rfl | exact hW.rdOwn 5 rfl | exact hW.rd 6 rfl | exact hW.rdOwn 6 rfl | exact hW.rd 7 rfl | exact hW.rdOwn 7 rfl | exact hW.rd 8 rfl | exact hW.rdOwn 8 rfl | exact hW.rd 9 rfl | exact hW.rdOwn 9 rfl | exact hW.rd 10 rfl | exact hW.rdOwn 10 rfl | exact hW.rd 11 rfl | exact hW.rdOwn 11 rfl | exact hW.rd 12 rfl | exact hW.rdOwn 12 rfl | exact hW.rd 13 rfl | exact hW.rdOwn 13 rfl | exact hW.rd 14 rfl | exact hW.rdOwn 14 rfl | exact hW.rd 15 rfl | exact hW.rdOwn 15 rfl | exact hW.rd 16 rfl | exact hW.rdOwn 16 rfl | exact hW.rd 17 rfl | exact hW.rdOwn 17 rfl | exact hW.rd 18 rfl | exact hW.rdOwn 18 rfl | exact hW.rd 19 rfl | exact hW.rdOwn 19 rfl | exact hW.rd 20 rfl | exact hW.rdOwn 20 rfl | exact hW.rd 21 rfl | exact hW.rdOwn 21 rfl | exact hW.rd 22 rfl | exact hW.rdOwn 22 rfl | exact hW.rd 23 rfl | exact hW.rdOwn 23 rfl), trivial⟩ (by omega)) ?_
  rintro v L ⟨rfl, rfl⟩
  refine CaseB.mk (fun g => ?_) (fun g => ?_)
  rotate_left
  · have q : ¬ (distinct m.waits = true) := by simpa using g
    exact retw [] ⟨_, rfl, tno fun e => q e.2.1, rfl⟩ trivial rfl trivial (fun _ => rfl)
  have c2 : distinct m.waits = true := g
  refine CaseB.mk (fun g => ?_) (fun g => ?_)
  · have c3 : 0 < m.count := by have g' := of_decide_eq_true g; omega
    exact retw [] ⟨_, rfl, tyes ⟨c1, c2, .inl c3⟩, rfl⟩ trivial rfl trivial (fun _ => rfl)
  · have c3 : ¬ 0 < m.count := by have g' := of_decide_eq_false g; omega
    exact retw [] ⟨_, rfl, by simp [GroupOk, c1, c2, c3], rfl⟩ trivial rfl trivial (fun _ => rfl)

set_option maxRecDepth 100000 in
theorem barrierValidS_c (m : Barrier) (q : Sl) (w : World) (h : At w [slo q cInt 1 m.waits]) (hb : m.waits.length ≤ 1048576) :
    Calls Tryz.prog 95 #[barrierV m q] w (Tells w (BarrierOk m)) := by
  refine calls1 Tryz.func95 rfl tabOk w _ rfl _ rfl _ h ⟨rfl, rfl, trivial⟩ _ (by decide) ?_
  refine CaseB.mk (fun g => ?_) (fun g => ?_)
  rotate_left
  · have q : ¬ (1 ≤ m.parties) := by have g' := of_decide_eq_false g; omega
    exact retw [] ⟨_, rfl, tno fun e => q e.1, rfl⟩ trivial rfl trivial (fun _ => rfl)
  have c1 : 1 ≤ m.parties := by have g' := of_decide_eq_true g; omega
  refine CaseB.mk (fun g => ?_) (fun g => ?_)
  rotate_left
  · have q : ¬ (m.parties ≤ 6) := by have g' := of_decide_eq_false g; omega
    exact retw [] ⟨_, rfl, tno fun e => q e.2.1, rfl⟩ trivial rfl trivial (fun _ => rfl)
  have c2 : m.parties ≤ 6 := by have g' := of_decide_eq_true g; omega
  refine CaseB.mk (fun g => ?_) (fun g => ?_)
  rotate_left
  · have q : ¬ (0 ≤ m.round) := by have g' := of_decide_eq_false g; omega
    exact retw [] ⟨_, rfl, tno fun e => q e.2.2.1, rfl⟩ trivial rfl trivial (fun _ => rfl)
  have c3 : 0 ≤ m.round := by have g' := of_decide_eq_true g; omega
  refine CaseB.mk (fun g => ?_) (fun g => ?_)
  rotate_left
  · have q : ¬ (m.round ≤ 9999) := by have g' := of_decide_eq_false g; omega
    exact retw [] ⟨_, rfl, tno fun e => q e.2.2.2.1, rfl⟩ trivial rfl trivial (fun _ => rfl)
  have c4 : m.round ≤ 9999 := by have g' := of_decide_eq_true g; omega
  refine stop_call _ cl123 rfl rfl rfl rfl ⟨rfl, rfl⟩ (fun A w hW => l2Waits_c q m.waits w ⟨(by first | exact hW.rd 0 rfl | exact hW.rdOwn 0 rfl | exact hW.rd 1 rfl | exact hW.rdOwn 1 rfl | exact hW.rd 2 rfl | exact hW.rdOwn 2 rfl | exact hW.rd 3 rfl | exact hW.rdOwn 3 rfl | exact hW.rd 4 rfl | exact hW.rdOwn 4 rfl | exact hW.rd 5 rfl | exact hW.rdOwn 5 rfl | exact hW.rd 6 rfl | exact hW.rdOwn 6 rfl | exact hW.rd 7 rfl | exact hW.rdOwn 7 rfl | exact hW.rd 8 rfl | exact hW.rdOwn 8 rfl | exact hW.rd 9 rfl | exact hW.rdOwn 9 rfl | exact hW.rd 10 rfl | exact hW.rdOwn 10 rfl | exact hW.rd 11 rfl | exact hW.rdOwn 11 rfl | exact hW.rd 12 rfl | exact hW.rdOwn 12 rfl | exact hW.rd 13 rfl | exact hW.rdOwn 13 rfl | exact hW.rd 14 rfl | exact hW.rdOwn 14 rfl | exact hW.rd 15 rfl | exact hW.rdOwn 15 rfl | exact hW.rd 16 rfl | exact hW.rdOwn 16 rfl | exact hW.rd 17 rfl | exact hW.rdOwn 17 rfl | exact hW.rd 18 rfl | exact hW.rdOwn 18 rfl | exact hW.rd 19 rfl | exact hW.rdOwn 19 rfl | exact hW.rd 20 rfl | exact hW.rdOwn 20 rfl | exact hW.rd 21 rfl | exact hW.rdOwn 21 rfl | exact hW.rd 22 rfl | exact hW.rdOwn 22 rfl | exact hW.rd 23 rfl | exact hW.rdOwn 23 rfl), trivial⟩ (by omega)) ?_
  rintro v L ⟨rfl, rfl⟩
  refine CaseB.mk (fun g => ?_) (fun g => ?_)
  rotate_left
  · have q : ¬ (distinct m.waits = true) := by simpa using g
    exact retw [] ⟨_, rfl, tno fun e => q e.2.2.2.2.2, rfl⟩ trivial rfl trivial (fun _ => rfl)
  have c6 : distinct m.waits = true := g
  exact retw [] ⟨_, rfl, by simp [BarrierOk, c1, c2, c3, c4, c6], rfl⟩ trivial rfl trivial (fun _ => rfl)

set_option maxHeartbeats 4000000 in
set_option maxRecDepth 100000 in
theorem semValidS_c (m : Sem) (q : Sl) (w : World) (h : At w [slo q cWaiter 2 m.queue]) (hb : m.queue.length ≤ 1048576) :
    Calls Tryz.prog 92 #[semV m q] w (Tells w (SemOk m)) := by
  refine calls1 Tryz.func92 rfl tabOk w _ rfl _ rfl _ h ⟨rfl, rfl, trivial⟩ _ (by decide) ?_
  refine CaseB.mk (fun g => ?_) (fun g => ?_)
  · have q : ¬ (1 ≤ m.limit) := by have g' := of_decide_eq_true g; omega
    exact retw [] ⟨_, rfl, tno fun e => q e.l1, rfl⟩ trivial rfl trivial (fun _ => rfl)
  have c1 : 1 ≤ m.limit := by have g' := of_decide_eq_false g; omega
  refine CaseB.mk (fun g => ?_) (fun g => ?_)
  · have q : ¬ (m.limit ≤ 9) := by have g' := of_decide_eq_true g; omega
    exact retw [] ⟨_, rfl, tno fun e => q e.l9, rfl⟩ trivial rfl trivial (fun _ => rfl)
  have c2 : m.limit ≤ 9 := by have g' := of_decide_eq_false g; omega
  refine CaseB.mk (fun g => ?_) (fun g => ?_)
  · have q : ¬ (0 ≤ m.free) := by have g' := of_decide_eq_true g; omega
    exact retw [] ⟨_, rfl, tno fun e => q e.f0, rfl⟩ trivial rfl trivial (fun _ => rfl)
  have c3 : 0 ≤ m.free := by have g' := of_decide_eq_false g; omega
  refine CaseB.mk (fun g => ?_) (fun g => ?_)
  · have q : ¬ (m.free ≤ m.limit) := by have g' := of_decide_eq_true g; omega
    exact retw [] ⟨_, rfl, tno fun e => q e.fl, rfl⟩ trivial rfl trivial (fun _ => rfl)
  have c4 : m.free ≤ m.limit := by have g' := of_decide_eq_false g; omega
  refine CaseB.mk (fun g => ?_) (fun g => ?_)
  · have q : ¬ (m.queue.length ≤ 6) := by have g' := of_decide_eq_true g; omega
    exact retw [] ⟨_, rfl, tno fun e => q e.q6, rfl⟩ trivial rfl trivial (fun _ => rfl)
  have c5 : m.queue.length ≤ 6 := by have g' := of_decide_eq_false g; omega
  refine LoopW.mk ⟨{ k : Nat // k ≤ m.queue.length ∧ (∀ w ∈ m.queue.take k, 1 ≤ w.n ∧ w.n ≤ m.limit) ∧ distinct ((m.queue.map (·.t)).take k) = true },
    fun p => .mk [(1, .p 0 0), (3, .v (.int .i64 (p.1 : Int)))] 1 0 [(0, 85, 3)] [((0, 0), .v (.int .i64 m.free)), ((0, 1), .v (.int .i64 m.limit)), ((0, 2), .v (q.val m.queue.length))] [slo q cWaiter 2 m.queue],
    fun p => m.queue.length - p.1, ⟨0, Nat.zero_le _, by simp, by simp [distinct]⟩, ?_, ?_⟩
  · refine weak_mk [0] ?_ ?_ ?_ ?_ ?_ rfl rfl
    · repeat (first | exact trivial | refine ⟨⟨_, rfl, (by first | exact .of rfl | exact .lit rfl | exact .of (by first | (rfl)) | exact .lit (by first | (rfl))), (by first | exact trivial | exact Nat.le_of_ble_eq_true rfl | exact small1 rfl)⟩, ?_⟩)
    · repeat (first | exact trivial | refine ⟨⟨(by first | exact .head _ | exact .tail _ (.head _) | exact .tail _ (.tail _ (.head _)) | exact .tail _ (.tail _ (.tail _ (.head _))) | exact .tail _ (.tail _ (.tail _ (.tail _ (.head _)))) | exact .tail _ (.tail _ (.tail _ (.tail _ (.tail _ (.head _))))) | exact .tail _ (.tail _ (.tail _ (.tail _ (.tail _ (.tail _ (.head _)))))) | exact .tail _ (.tail _ (.tail _ (.tail _ (.tail _ (.tail _ (.tail _ (.head _))))))) | exact .tail _ (.tail _ (.tail _ (.tail _ (.tail _ (.tail _ (.tail _ (.tail _ (.head _)))))))) | exact .tail _ (.tail _ (.tail _ (.tail _ (.tail _ (.tail _ (.tail _ (.tail _ (.tail _ (.head _)))))))))), Nat.le_of_ble_eq_true rfl⟩, ?_⟩)
    · repeat (first | exact trivial | refine ⟨⟨_, rfl, (by first | exact .of rfl | exact .lit rfl | exact .of (by first | (rfl)) | exact .lit (by first | (rfl))), (by first | exact trivial | exact Nat.le_of_ble_eq_true rfl | exact small1 rfl)⟩, ?_⟩)
    · repeat (first | exact trivial | refine ⟨⟨_, rfl⟩, ?_⟩)
    · repeat (first | exact trivial | refine ⟨.inl ⟨_, rfl, (by first | rfl | (rfl))⟩, ?_⟩ | refine ⟨.inr ⟨Nat.le_of_ble_eq_true rfl, rfl, rfl, rfl, rfl⟩, ?_⟩)
  rintro ⟨k, hk, hinv, hdi⟩
  refine CaseB.mk (fun g => ?_) (fun g => ?_)
  · have hlt : k < m.queue.length := by simpa using g
    have hltm : k < (m.queue.map (·.t)).length := by simpa using hlt
    have hw := wrapN k _ hlt (by omega)
    have hsub : distinct (m.queue.map (·.t)) = true → isThread (m.queue[k]).t = true ∧ (m.queue[k]).t ∉ (m.queue.map (·.t)).take k := fun e => by
      simp only [distinct, decide_eq_true_eq] at e
      refine ⟨e.2 _ (List.mem_map_of_mem (List.getElem_mem hlt)), fun hm => ?_⟩
      have hn := e.1
      rw [← List.take_append_drop k (m.queue.map (·.t)), List.nodup_append] at hn
      refine hn.2.2 _ hm _ ?_ rfl
      rw [List.drop_eq_getElem_cons hltm]
      simp
    refine stop_idx encWaiter tabOk rfl rfl rfl rfl rfl ⟨rfl, rfl⟩ (rdAt 0 rfl) k rfl (by first | omega | (simp; done) | (simp; omega) | (unfold maxLen; omega) | (unfold maxLen; simp; done) | (unfold maxLen; simp; omega)) (fun ad => ?_)
    refine stop_call _ cl122 rfl rfl rfl rfl ⟨rfl, rfl⟩ (fun A w hW => l1Thread_c _ w) ?_
    rintro v L ⟨rfl, rfl⟩
    refine CaseB.mk (fun g => ?_) (fun g => ?_)
    · exact retw [] ⟨_, rfl, tno fun e => (by rw [(hsub e.dis).1] at g; cases g), rfl⟩ trivial rfl trivial (fun _ => rfl)
    have d0 : isThread (m.queue[k]).t = true := by simpa using g
    refine CaseB.mk (fun g => ?_) (fun g => ?_)
    · have q : ¬ (1 ≤ (m.queue[k]).n) := by have g' := of_decide_eq_true g; omega
      exact retw [] ⟨_, rfl, tno fun e => q (e.cnt _ (List.getElem_mem hlt)).1, rfl⟩ trivial rfl trivial (fun _ => rfl)
    have d1 : 1 ≤ (m.queue[k]).n := by have g' := of_decide_eq_false g; omega
    refine CaseB.mk (fun g => ?_) (fun g => ?_)
    · have q : ¬ ((m.queue[k]).n ≤ m.limit) := by have g' := of_decide_eq_true g; omega
      exact retw [] ⟨_, rfl, tno fun e => q (e.cnt _ (List.getElem_mem hlt)).2, rfl⟩ trivial rfl trivial (fun _ => rfl)
    have d2 : (m.queue[k]).n ≤ m.limit := by have g' := of_decide_eq_false g; omega
    refine LoopW.mk ⟨{ j : Nat // j ≤ k ∧ (m.queue[k]).t ∉ (m.queue.map (·.t)).take j },
      fun j => .mk [(1, .p 0 0), (3, .v (.int .i64 (k : Int))), (4, .p 1 0), (5, .v (.int .i64 (j.1 : Int)))] 2 0 [(0, 85, 3), (1, 161, 2)] [((0, 0), .v (.int .i64 m.free)), ((0, 1), .v (.int .i64 m.limit)), ((0, 2), .v (q.val m.queue.length)), ((1, 0), .v (.int .i64 (m.queue[k]).t))] [slo q cWaiter 2 m.queue],
      fun j => k - j.1, ⟨0, Nat.zero_le _, by simp⟩, ?_, ?_⟩
    · refine weak_mk [0] ?_ ?_ ?_ ?_ ?_ rfl rfl
      · repeat (first | exact trivial | refine ⟨⟨_, rfl, (by first | exact .of rfl | exact .lit rfl | exact .of (by first | (rfl)) | exact .lit (by first | (rfl))), (by first | exact trivial | exact Nat.le_of_ble_eq_true rfl | exact small1 rfl)⟩, ?_⟩)
      · repeat (first | exact trivial | refine ⟨⟨(by first | exact .head _ | exact .tail _ (.head _) | exact .tail _ (.tail _ (.head _)) | exact .tail _ (.tail _ (.tail _ (.head _))) | exact .tail _ (.tail _ (.tail _ (.tail _ (.head _)))) | exact .tail _ (.tail _ (.tail _ (.tail _ (.tail _ (.head _))))) | exact .tail _ (.tail _ (.tail _ (.tail _ (.tail _ (.tail _ (.head _)))))) | exact .tail _ (.tail _ (.tail _ (.tail _ (.tail _ (.tail _ (.tail _ (.head _))))))) | exact .tail _ (.tail _ (.tail _ (.tail _ (.tail _ (.tail _ (.tail _ (.tail _ (.head _)))))))) | exact .tail _ (.tail _ (.tail _ (.tail _ (.tail _ (.tail _ (.tail _ (.tail _ (.tail _ (.head _)))))))))), Nat.le_of_ble_eq_true rfl⟩, ?_⟩)
      · repeat (first | exact trivial | refine ⟨⟨_, rfl, (by first | exact .of rfl | exact .lit rfl | exact .of (by first | (rfl)) | exact .lit (by first | (rfl))), (by first | exact trivial | exact Nat.le_of_ble_eq_true rfl | exact small1 rfl)⟩, ?_⟩)
      · repeat (first | exact trivial | refine ⟨⟨_, rfl⟩, ?_⟩)
      · repeat (first | exact trivial | refine ⟨.inl ⟨_, rfl, (by first | rfl | (rfl))⟩, ?_⟩ | refine ⟨.inr ⟨Nat.le_of_ble_eq_true rfl, rfl, rfl, rfl, rfl⟩, ?_⟩)
    rintro ⟨j, hj, hnm⟩
    refine CaseB.mk (fun g => ?_) (fun g => ?_)
    · have hlj : j < k := by simpa using g
      have hlj2 : j < m.queue.length := by omega
      have hwj := wrapN j k hlj (by omega)
      refine draw_start tabOk (by kernel_rfl) (by kernel_rfl) (by kernel_rfl) 200 [((0, 0), .v (.int .i64 m.free)), ((0, 1), .v (.int .i64 m.limit)), ((0, 2), .v (q.val m.queue.length)), ((1, 0), .v (.int .i64 (m.queue[k]).t))] [0] [_] ⟨⟨_, rfl, rfl, (by first | exact trivial | exact Nat.le_of_ble_eq_true rfl)⟩, ⟨_, rfl, rfl, (by first | exact trivial | exact Nat.le_of_ble_eq_true rfl)⟩, ⟨_, rfl, rfl, (by first | exact trivial | exact Nat.le_of_ble_eq_true rfl)⟩, ⟨_, rfl, rfl, (by first | exact trivial | exact Nat.le_of_ble_eq_true rfl)⟩, trivial⟩ ⟨⟨_, rfl⟩, ⟨_, rfl⟩, ⟨_, rfl⟩, ⟨_, rfl⟩, trivial⟩ ⟨rfl, trivial⟩ rfl ?_
      refine d_idx (ti := tiOf tab) encWaiter tabOk rfl rfl rfl rfl rfl ⟨rfl, rfl⟩ (rdAt 0 rfl) j rfl (by first | omega | (simp; done) | (simp; omega) | (unfold maxLen; omega) | (unfold maxLen; simp; done) | (unfold maxLen; simp; omega)) (fun ad2 => ?_)
      refine CaseB.mk (fun g => ?_) (fun g => ?_)
      · have q : (m.queue[j]).t = (m.queue[k]).t := by simpa using g
        refine retw [] ⟨_, rfl, tno fun e => (hsub e.dis).2 ?_, rfl⟩ trivial rfl trivial (fun _ => rfl)
        rw [← q, List.mem_take_iff_getElem]
        exact ⟨j, by simp; omega, by simp⟩
      · have q : ¬ (m.queue[j]).t = (m.queue[k]).t := by simpa using g
        refine ⟨⟨j + 1, by omega, ?_⟩, ?_, by simp only; omega⟩
        · rw [List.take_succ_eq_append_getElem (by simpa using hlj2)]
          simp only [List.mem_append, List.mem_singleton, List.getElem_map, not_or]
          exact ⟨hnm, fun e => q e.symm⟩
        · refine weak_mk [0] ?_ ?_ ?_ ?_ ?_ rfl rfl
          · repeat (first | exact trivial | refine ⟨⟨_, rfl, (by first | exact .of rfl | exact .lit rfl | exact .of (by first | ((exact congrArg (fun z => SV.v (Value.int .i64 z)) hwj))) | exact .lit (by first | ((exact congrArg (fun z => SV.v (Value.int .i64 z)) hwj)))), (by first | exact trivial | exact Nat.le_of_ble_eq_true rfl | exact small1 rfl)⟩, ?_⟩)
          · repeat (first | exact trivial | refine ⟨⟨(by first | exact .head _ | exact .tail _ (.head _) | exact .tail _ (.tail _ (.head _)) | exact .tail _ (.tail _ (.tail _ (.head _))) | exact .tail _ (.tail _ (.tail _ (.tail _ (.head _)))) | exact .tail _ (.tail _ (.tail _ (.tail _ (.tail _ (.head _))))) | exact .tail _ (.tail _ (.tail _ (.tail _ (.tail _ (.tail _ (.head _)))))) | exact .tail _ (.tail _ (.tail _ (.tail _ (.tail _ (.tail _ (.tail _ (.head _))))))) | exact .tail _ (.tail _ (.tail _ (.tail _ (.tail _ (.tail _ (.tail _ (.tail _ (.head _)))))))) | exact .tail _ (.tail _ (.tail _ (.tail _ (.tail _ (.tail _ (.tail _ (.tail _ (.tail _ (.head _)))))))))), Nat.le_of_ble_eq_true rfl⟩, ?_⟩)
          · repeat (first | exact trivial | refine ⟨⟨_, rfl, (by first | exact .of rfl | exact .lit rfl | exact .of (by first | ((exact congrArg (fun z => SV.v (Value.int .i64 z)) hwj))) | exact .lit (by first | ((exact congrArg (fun z => SV.v (Value.int .i64 z)) hwj)))), (by first | exact trivial | exact Nat.le_of_ble_eq_true rfl | exact small1 rfl)⟩, ?_⟩)
          · repeat (first | exact trivial | refine ⟨⟨_, rfl⟩, ?_⟩)
          · repeat (first | exact trivial | refine ⟨.inl ⟨_, rfl, (by first | rfl | ((exact congrArg (fun z => SV.v (Value.int .i64 z)) hwj)))⟩, ?_⟩ | refine ⟨.inr ⟨Nat.le_of_ble_eq_true rfl, rfl, rfl, rfl, rfl⟩, ?_⟩)
    have hjk : j = k := by have : ¬ (j : Int) < k := by simpa using g
                           omega
    subst hjk
    refine ⟨⟨j + 1, by omega, fun x hx => ?_, ?_⟩, ?_, by simp only; omega⟩
    · rw [List.take_succ_eq_append_getElem hlt] at hx
      rcases List.mem_append.1 hx with hx | hx
      · exact hinv x hx
      · simp at hx; subst hx; exact ⟨d1, d2⟩
    · rw [List.take_succ_eq_append_getElem hltm]
      simp only [distinct, decide_eq_true_eq] at hdi ⊢
      refine ⟨?_, fun x hx => ?_⟩
      · rw [List.nodup_append]
        refine ⟨hdi.1, by simp, fun a ha b hb => ?_⟩
        simp at hb; subst hb
        rintro rfl
        exact hnm ha
      · rcases List.mem_append.1 hx with hx | hx
        · exact hdi.2 x hx
        · simp at hx; subst hx; exact d0
    · refine weak_mk [0] ?_ ?_ ?_ ?_ ?_ rfl rfl
      · repeat (first | exact trivial | refine ⟨⟨_, rfl, (by first | exact .of rfl | exact .lit rfl | exact .of (by first | ((exact congrArg (fun z => SV.v (Value.int .i64 z)) hw))) | exact .lit (by first | ((exact congrArg (fun z => SV.v (Value.int .i64 z)) hw)))), (by first | exact trivial | exact Nat.le_of_ble_eq_true rfl | exact small1 rfl)⟩, ?_⟩)
      · repeat (first | exact trivial | refine ⟨⟨(by first | exact .head _ | exact .tail _ (.head _) | exact .tail _ (.tail _ (.head _)) | exact .tail _ (.tail _ (.tail _ (.head _))) | exact .tail _ (.tail _ (.tail _ (.tail _ (.head _)))) | exact .tail _ (.tail _ (.tail _ (.tail _ (.tail _ (.head _))))) | exact .tail _ (.tail _ (.tail _ (.tail _ (.tail _ (.tail _ (.head _)))))) | exact .tail _ (.tail _ (.tail _ (.tail _ (.tail _ (.tail _ (.tail _ (.head _))))))) | exact .tail _ (.tail _ (.tail _ (.tail _ (.tail _ (.tail _ (.tail _ (.tail _ (.head _)))))))) | exact .tail _ (.tail _ (.tail _ (.tail _ (.tail _ (.tail _ (.tail _ (.tail _ (.tail _ (.head _)))))))))), Nat.le_of_ble_eq_true rfl⟩, ?_⟩)
      · repeat (first | exact trivial | refine ⟨⟨_, rfl, (by first | exact .of rfl | exact .lit rfl | exact .of (by first | ((exact congrArg (fun z => SV.v (Value.int .i64 z)) hw))) | exact .lit (by first | ((exact congrArg (fun z => SV.v (Value.int .i64 z)) hw)))), (by first | exact trivial | exact Nat.le_of_ble_eq_true rfl | exact small1 rfl)⟩, ?_⟩)
      · repeat (first | exact trivial | refine ⟨⟨_, rfl⟩, ?_⟩)
      · repeat (first | exact trivial | refine ⟨.inl ⟨_, rfl, (by first | rfl | ((exact congrArg (fun z => SV.v (Value.int .i64 z)) hw)))⟩, ?_⟩ | refine ⟨.inr ⟨Nat.le_of_ble_eq_true rfl, rfl, rfl, rfl, rfl⟩, ?_⟩)
  have hge : m.queue.length ≤ k := by simpa using g
  rw [List.take_of_length_le hge] at hinv
  rw [List.take_of_length_le (by simpa using hge)] at hdi
  refine draw_start tabOk (by kernel_rfl) (by kernel_rfl) (by kernel_rfl) 200 [((0, 0), .v (.int .i64 m.free)), ((0, 1), .v (.int .i64 m.limit)), ((0, 2), .v (q.val m.queue.length))] [0] [_] ⟨⟨_, rfl, rfl, (by first | exact trivial | exact Nat.le_of_ble_eq_true rfl)⟩, ⟨_, rfl, rfl, (by first | exact trivial | exact Nat.le_of_ble_eq_true rfl)⟩, ⟨_, rfl, rfl, (by first | exact trivial | exact Nat.le_of_ble_eq_true rfl)⟩, trivial⟩ ⟨⟨_, rfl⟩, ⟨_, rfl⟩, ⟨_, rfl⟩, trivial⟩ ⟨rfl, trivial⟩ rfl ?_
  refine CaseB.mk (fun g => ?_) (fun g => ?_)
  · have c7 : m.queue = [] := by simpa using g
    exact retw [] ⟨_, rfl, tyes ⟨c1, c2, c3, c4, c5, hinv, hdi, by rw [c7]; simp⟩, rfl⟩ trivial rfl trivial (fun _ => rfl)
  have c7 : 0 < m.queue.length := by have g' : ¬ m.queue = [] := by simpa using g
                                     exact List.length_pos_iff.2 g'
  refine d_idx (ti := tiOf tab) encWaiter tabOk rfl rfl rfl rfl rfl ⟨rfl, rfl⟩ (rdAt 0 rfl) 0 rfl (by first | omega | (simp; done) | (simp; omega) | (unfold maxLen; omega) | (unfold maxLen; simp; done) | (unfold maxLen; simp; omega)) (fun ad => ?_)
  refine retw [] ⟨_, rfl, ?_, rfl⟩ trivial rfl trivial (fun _ => rfl)
  have hh : ∀ w, m.queue[0]? = some w → w = m.queue[0] := fun w hw => by rw [List.getElem?_eq_getElem c7] at hw; injection hw with hw; exact hw.symm
  constructor
  · intro g
    have g' := of_decide_eq_true g
    exact ⟨c1, c2, c3, c4, c5, hinv, hdi, fun w hw => by rw [hh w hw]; omega⟩
  · intro e
    have := e.hd _ (List.getElem?_eq_getElem c7)
    exact decide_eq_true (by omega)

end Go.Proofs.YtchkcjeeknfchaaGreatDoor
