/- FnExactStateFits: texts that its proof stands on, part 7. -/
import Derived.Test.YtklclbcckjhdpaaGreatQExactStateFitsf
namespace Go.Proofs.YtklclbcckjhdpaaGreat

open Go Go.Sx Go.RowKit

set_option maxRecDepth 100000 in
theorem szOpSS_c (h : Sl) (xs : List OpSH) (left : Int) (w : World) (hh : At w [fR (threadsO h xs)]) (h0 : -1 ≤ left) (h1 : left ≤ 1048576) :
    Calls Tryz.prog 45 #[h.val xs.length, .int .i64 left] w (Ret w fun v L => v = .int .i64 (szAll szOpSM (xs.map (·.m)) left) ∧ L = []) := by
  have hrd := (Rd.ofR (nest_h (xs := xs))).p w hh.1.1
  obtain ⟨_, b1, b2, _⟩ := hrd
  unfold maxLen at b2
  have e : IntKind.i64.wrap (left - (xs.length : Int)) = left - xs.length := e_wrap (by omega) (by omega)
  refine calls2 Tryz.func45 rfl tabOk w _ rfl _ rfl _ hh ⟨rfl, rfl, trivial⟩ _ _ (by decide) ?_
  refine CaseB.mk (fun g => ?_) (fun g => ?_)
  · rw [e] at g
    have g2 : left - (xs.length : Int) < 0 := by simpa using g
    exact retw [] ⟨by simp [szAll, g2], rfl⟩ trivial rfl trivial (fun _ => rfl)
  · rw [e] at g
    have g2 : ¬ left - (xs.length : Int) < 0 := by simpa using g
    refine LoopW.mk ⟨{ p : Nat × Int // p.1 ≤ xs.length ∧ szList szOpSM ((xs.map (·.m)).drop p.1) p.2 = szAll szOpSM (xs.map (·.m)) left ∧ -1 ≤ p.2 ∧ p.2 ≤ 1048576 },
      fun p => .mk [(0, .v (h.val xs.length)), (1, .v (.int .i64 p.1.2)), (5, .v (.int .i64 (p.1.1 : Int)))] 0 0 [] [] [fR (threadsO h xs)],
      fun p => xs.length - p.1.1, ⟨(0, left - xs.length), Nat.zero_le _, by simp [szAll, g2], by omega, by omega⟩, ?_, ?_⟩
    · refine weak_mk [0] ?_ ?_ ?_ ?_ ?_ rfl rfl
      · repeat (first | exact trivial | refine ⟨⟨_, rfl, (by first | exact .of rfl | exact .lit rfl | exact .of (by first | ((simp only [e]))) | exact .lit (by first | ((simp only [e])))), (by first | exact trivial | exact Nat.le_of_ble_eq_true rfl)⟩, ?_⟩)
      · repeat (first | exact trivial | refine ⟨⟨(by first | exact .head _ | exact .tail _ (.head _) | exact .tail _ (.tail _ (.head _)) | exact .tail _ (.tail _ (.tail _ (.head _))) | exact .tail _ (.tail _ (.tail _ (.tail _ (.head _)))) | exact .tail _ (.tail _ (.tail _ (.tail _ (.tail _ (.head _))))) | exact .tail _ (.tail _ (.tail _ (.tail _ (.tail _ (.tail _ (.head _)))))) | exact .tail _ (.tail _ (.tail _ (.tail _ (.tail _ (.tail _ (.tail _ (.head _))))))) | exact .tail _ (.tail _ (.tail _ (.tail _ (.tail _ (.tail _ (.tail _ (.tail _ (.head _)))))))) | exact .tail _ (.tail _ (.tail _ (.tail _ (.tail _ (.tail _ (.tail _ (.tail _ (.tail _ (.head _)))))))))), Nat.le_of_ble_eq_true rfl⟩, ?_⟩)
      · repeat (first | exact trivial | refine ⟨⟨_, rfl, (by first | exact .of rfl | exact .lit rfl | exact .of (by first | ((simp only [e]))) | exact .lit (by first | ((simp only [e])))), (by first | exact trivial | exact Nat.le_of_ble_eq_true rfl)⟩, ?_⟩)
      · repeat (first | exact trivial | refine ⟨⟨_, rfl⟩, ?_⟩)
      · repeat (first | exact trivial | refine ⟨.inl ⟨_, rfl, (by first | rfl | ((simp only [e])))⟩, ?_⟩ | refine ⟨.inr ⟨Nat.le_of_ble_eq_true rfl, rfl, rfl, rfl, rfl⟩, ?_⟩)
    · rintro ⟨⟨k, l⟩, hk, hl, hl0, hl1⟩
      simp only at hk hl hl0 hl1
      refine CaseB.mk (fun g3 => ?_) (fun g3 => ?_)
      · have hlt : k < xs.length := by simpa using g3
        rw [List.drop_eq_getElem_cons (by simpa using hlt)] at hl
        simp only [szList, List.getElem_map] at hl
        refine stop_idx encOpSH tabOk rfl rfl rfl rfl rfl ⟨rfl, rfl⟩ (rdVia 0 rfl (.ofR nest_h)) k rfl (by first | omega | (simp; done) | (simp; omega) | (unfold maxLen; omega) | (unfold maxLen; simp; done) | (unfold maxLen; simp; omega)) (fun ad => ?_)
        refine stop_call _ cl114 rfl rfl rfl rfl ⟨rfl, rfl⟩ (fun A w hW => szOpS_c _ _ _ w ⟨hW.get 0 rfl (.ofR (threadsO_0 h xs k hlt)), trivial⟩ hl0 hl1) ?_
        rintro v L ⟨rfl, rfl⟩
        refine CaseB.mk (fun g4 => ?_) (fun g4 => ?_)
        · have q : szOpSM xs[k].m l < 0 := by unfold szOpSM; simpa using g4
          rw [if_pos q] at hl
          exact retw [] ⟨by rw [← hl], rfl⟩ trivial rfl trivial (fun _ => rfl)
        · have q : ¬ szOpSM xs[k].m l < 0 := by unfold szOpSM; simpa using g4
          rw [if_neg q] at hl
          have q2 := (szOpSM_gen xs[k].m l hl1 q).2
          have hw := e_succ k _ hlt (by omega)
          refine ⟨⟨(k + 1, szOpSM xs[k].m l), hlt, hl, by omega, by omega⟩, ?_, by simp only; omega⟩
          refine weak_mk [0] ?_ ?_ ?_ ?_ ?_ rfl rfl
          · repeat (first | exact trivial | refine ⟨⟨_, rfl, (by first | exact .of rfl | exact .lit rfl | exact .of (by first | ((exact congrArg (fun z => SV.v (Value.int .i64 z)) hw))) | exact .lit (by first | ((exact congrArg (fun z => SV.v (Value.int .i64 z)) hw)))), (by first | exact trivial | exact Nat.le_of_ble_eq_true rfl)⟩, ?_⟩)
          · repeat (first | exact trivial | refine ⟨⟨(by first | exact .head _ | exact .tail _ (.head _) | exact .tail _ (.tail _ (.head _)) | exact .tail _ (.tail _ (.tail _ (.head _))) | exact .tail _ (.tail _ (.tail _ (.tail _ (.head _)))) | exact .tail _ (.tail _ (.tail _ (.tail _ (.tail _ (.head _))))) | exact .tail _ (.tail _ (.tail _ (.tail _ (.tail _ (.tail _ (.head _)))))) | exact .tail _ (.tail _ (.tail _ (.tail _ (.tail _ (.tail _ (.tail _ (.head _))))))) | exact .tail _ (.tail _ (.tail _ (.tail _ (.tail _ (.tail _ (.tail _ (.tail _ (.head _)))))))) | exact .tail _ (.tail _ (.tail _ (.tail _ (.tail _ (.tail _ (.tail _ (.tail _ (.tail _ (.head _)))))))))), Nat.le_of_ble_eq_true rfl⟩, ?_⟩)
          · repeat (first | exact trivial | refine ⟨⟨_, rfl, (by first | exact .of rfl | exact .lit rfl | exact .of (by first | ((exact congrArg (fun z => SV.v (Value.int .i64 z)) hw))) | exact .lit (by first | ((exact congrArg (fun z => SV.v (Value.int .i64 z)) hw)))), (by first | exact trivial | exact Nat.le_of_ble_eq_true rfl)⟩, ?_⟩)
          · repeat (first | exact trivial | refine ⟨⟨_, rfl⟩, ?_⟩)
          · repeat (first | exact trivial | refine ⟨.inl ⟨_, rfl, (by first | rfl | ((exact congrArg (fun z => SV.v (Value.int .i64 z)) hw)))⟩, ?_⟩ | refine ⟨.inr ⟨Nat.le_of_ble_eq_true rfl, rfl, rfl, rfl, rfl⟩, ?_⟩)
      · have hge : xs.length ≤ k := by simpa using g3
        rw [List.drop_eq_nil_of_le (by simpa using hge)] at hl
        exact retw [] ⟨congrArg (Value.int .i64) hl, rfl⟩ trivial rfl trivial (fun _ => rfl)

def OpSH0 : OpSH := ⟨[], ⟨none, 0⟩⟩

set_option maxRecDepth 100000 in
theorem toOpSS_c (h : Sl) (xs : List OpSH) (w : World) (hh : At w [fR (threadsO h xs)]) (hl : xs.length ≤ 1048576) (hb : ∀ x ∈ xs, OpS.small20 x.m) :
    Calls Tryz.prog 54 #[h.val xs.length] w (Ret w fun v L => ∃ (y : Sl) (ys : List OpSH), v = y.val ys.length ∧ ys.map (·.m) = xs.map (·.m) ∧ L = [fO (threadsO y ys)]) := by
  refine calls1 Tryz.func54 rfl tabOk w _ rfl _ rfl _ hh ⟨rfl, rfl, trivial⟩ _ (by decide) ?_
  refine stop_make encOpSH OpSH0 tabOk rfl rfl rfl rfl rfl (by decide) ⟨rfl, rfl⟩ xs.length rfl (by first | omega | (simp; done) | (simp; omega) | (unfold maxLen; omega) | (unfold maxLen; simp; done) | (unfold maxLen; simp; omega)) (by first | omega | (simp; done) | (simp; omega) | (unfold maxLen; omega) | (unfold maxLen; simp; done) | (unfold maxLen; simp; omega)) (fun y => ?_)
  refine LoopW.mk ⟨{ p : Nat × List OpSH // p.1 ≤ xs.length ∧ p.2.map (·.m) = (xs.map (·.m)).take p.1 },
    fun p => .mk [(0, .v (h.val xs.length)), (3, .v (y.val (p.1.2 ++ List.replicate (xs.length - p.1.1) OpSH0).length)), (4, .v (.int .i64 (p.1.1 : Int)))] 0 0 [] [] [own y 89 cOpSH 1 (p.1.2 ++ List.replicate (xs.length - p.1.1) OpSH0), fO (p.1.2.flatMap opSO), fR (threadsO h xs)],
    fun p => xs.length - p.1.1, ⟨(0, []), Nat.zero_le _, by simp⟩, ?_, ?_⟩
  · refine weak_shift (.joinO [] (Gs := []) trivial rfl (.refl _)) ?_
    refine weak_mk [1, 0, 2] ?_ ?_ ?_ ?_ ?_ rfl rfl
    · repeat (first | exact trivial | refine ⟨⟨_, rfl, (by first | exact .of rfl | exact .lit rfl | exact .of (by first | ((simp))) | exact .lit (by first | ((simp)))), (by first | exact trivial | exact Nat.le_of_ble_eq_true rfl)⟩, ?_⟩)
    · repeat (first | exact trivial | refine ⟨⟨(by first | exact .head _ | exact .tail _ (.head _) | exact .tail _ (.tail _ (.head _)) | exact .tail _ (.tail _ (.tail _ (.head _))) | exact .tail _ (.tail _ (.tail _ (.tail _ (.head _)))) | exact .tail _ (.tail _ (.tail _ (.tail _ (.tail _ (.head _))))) | exact .tail _ (.tail _ (.tail _ (.tail _ (.tail _ (.tail _ (.head _)))))) | exact .tail _ (.tail _ (.tail _ (.tail _ (.tail _ (.tail _ (.tail _ (.head _))))))) | exact .tail _ (.tail _ (.tail _ (.tail _ (.tail _ (.tail _ (.tail _ (.tail _ (.head _)))))))) | exact .tail _ (.tail _ (.tail _ (.tail _ (.tail _ (.tail _ (.tail _ (.tail _ (.tail _ (.head _)))))))))), Nat.le_of_ble_eq_true rfl⟩, ?_⟩)
    · repeat (first | exact trivial | refine ⟨⟨_, rfl, (by first | exact .of rfl | exact .lit rfl | exact .of (by first | ((simp))) | exact .lit (by first | ((simp)))), (by first | exact trivial | exact Nat.le_of_ble_eq_true rfl)⟩, ?_⟩)
    · repeat (first | exact trivial | refine ⟨⟨_, rfl⟩, ?_⟩)
    · repeat (first | exact trivial | refine ⟨.inl ⟨_, rfl, (by first | rfl | ((simp)))⟩, ?_⟩ | refine ⟨.inr ⟨Nat.le_of_ble_eq_true rfl, rfl, rfl, rfl, rfl⟩, ?_⟩)
  · rintro ⟨⟨k, ys⟩, hk, hy⟩
    simp only at hk hy
    have hyl : ys.length = k := by have := congrArg List.length hy; simp at this; omega
    refine CaseB.mk (fun g => ?_) (fun g => ?_)
    · have hlt : k < xs.length := by simpa using g
      have hlt2 : k < (ys ++ List.replicate (xs.length - k) OpSH0).length := by simp; omega
      refine stop_idx encOpSH tabOk rfl rfl rfl rfl rfl ⟨rfl, rfl⟩ (rdVia 2 rfl (.ofR nest_h)) k rfl (by first | omega | (simp; done) | (simp; omega) | (unfold maxLen; omega) | (unfold maxLen; simp; done) | (unfold maxLen; simp; omega)) (fun ad => ?_)
      refine stop_call _ cl132 rfl rfl rfl rfl ⟨rfl, rfl⟩ (fun A w hW => toOpS_c _ _ w ⟨hW.get 2 rfl (.ofR (threadsO_0 h xs k hlt)), trivial⟩ (hb _ (List.getElem_mem hlt))) ?_
      rintro v L ⟨y0, rfl, rfl⟩
      generalize hx : (⟨xs[k].m, y0⟩ : OpSH) = x
      have hxm : x.m = xs[k].m := by rw [← hx]
      have hT : (ys ++ List.replicate (xs.length - k) OpSH0).set k x = (ys ++ [x]) ++ List.replicate (xs.length - (k + 1)) OpSH0 := by
        rw [List.set_append_right _ _ (by omega), show k - ys.length = 0 by omega, show xs.length - k = (xs.length - (k + 1)) + 1 by omega, List.replicate_succ, List.append_assoc]
        rfl
      generalize hq : (ys ++ List.replicate (xs.length - k) OpSH0) = Q at hT hlt2
      refine stop_idxW encOpSH 1 tabOk rfl rfl rfl rfl rfl ⟨rfl, rfl⟩ rfl (by first | rfl | (simp; done)) k rfl hlt2 (fun g1 hg1 => ?_)
      refine stop_storeW encOpSH 1 tabOk rfl rfl rfl rfl rfl rfl rfl rfl hg1 k 0 x rfl hlt2 rfl (cOpSH x) (fun _ => by rw [← hx]; rfl) (by rw [List.drop_eq_nil_of_le (by exact Nat.le_refl _)]; simp) ?_
      have hw := e_succ k _ hlt (by omega)
      refine ⟨⟨(k + 1, ys ++ [x]), hlt, by rw [List.map_append]; exact map_take_succ hlt hy hxm⟩, ?_, by simp only; omega⟩
      refine weak_shift (.joinO [1, 2] (Gs := [[_], _]) ⟨.inl ⟨_, rfl, .own⟩, .inl ⟨_, rfl, .o⟩, trivial⟩ rfl (G := (ys ++ [x]).flatMap opSO) (by subst hx; rw [List.flatMap_append]; exact (List.Perm.of_eq (by simp [opSO])).trans List.perm_append_comm)) ?_
      refine weak_mk [1, 0, 2] ?_ ?_ ?_ ?_ ?_ rfl rfl
      · repeat (first | exact trivial | refine ⟨⟨_, rfl, (by first | exact .of rfl | exact .lit rfl | exact .of (by first | ((first | (rw [hT]; done) | (simp only; done) | exact congrArg (fun z => SV.v (Value.int .i64 z)) hw | (rw [← hT]; simp)))) | exact .lit (by first | ((first | (rw [hT]; done) | (simp only [hT]; done) | exact congrArg (fun z => SV.v (Value.int .i64 z)) hw | (rw [← hT]; simp))))), (by first | exact trivial | exact Nat.le_of_ble_eq_true rfl)⟩, ?_⟩)
      · repeat (first | exact trivial | refine ⟨⟨(by first | exact .head _ | exact .tail _ (.head _) | exact .tail _ (.tail _ (.head _)) | exact .tail _ (.tail _ (.tail _ (.head _))) | exact .tail _ (.tail _ (.tail _ (.tail _ (.head _)))) | exact .tail _ (.tail _ (.tail _ (.tail _ (.tail _ (.head _))))) | exact .tail _ (.tail _ (.tail _ (.tail _ (.tail _ (.tail _ (.head _)))))) | exact .tail _ (.tail _ (.tail _ (.tail _ (.tail _ (.tail _ (.tail _ (.head _))))))) | exact .tail _ (.tail _ (.tail _ (.tail _ (.tail _ (.tail _ (.tail _ (.tail _ (.head _)))))))) | exact .tail _ (.tail _ (.tail _ (.tail _ (.tail _ (.tail _ (.tail _ (.tail _ (.tail _ (.head _)))))))))), Nat.le_of_ble_eq_true rfl⟩, ?_⟩)
      · repeat (first | exact trivial | refine ⟨⟨_, rfl, (by first | exact .of rfl | exact .lit rfl | exact .of (by first | ((first | (rw [hT]; done) | (simp only [hT]; done) | exact congrArg (fun z => SV.v (Value.int .i64 z)) hw | (rw [← hT]; simp)))) | exact .lit (by first | ((first | (rw [hT]; done) | (simp only [hT]; done) | exact congrArg (fun z => SV.v (Value.int .i64 z)) hw | (rw [← hT]; simp))))), (by first | exact trivial | exact Nat.le_of_ble_eq_true rfl)⟩, ?_⟩)
      · repeat (first | exact trivial | refine ⟨⟨_, rfl⟩, ?_⟩)
      · repeat (first | exact trivial | refine ⟨.inl ⟨_, rfl, (by first | rfl | ((first | (rw [hT]; done) | (simp only [hT]; done) | exact congrArg (fun z => SV.v (Value.int .i64 z)) hw | (rw [← hT]; simp))))⟩, ?_⟩ | refine ⟨.inr ⟨Nat.le_of_ble_eq_true rfl, rfl, rfl, rfl, rfl⟩, ?_⟩)
    · have hge : xs.length ≤ k := by simpa using g
      have hT : ys ++ List.replicate (xs.length - k) OpSH0 = ys := by rw [show xs.length - k = 0 by omega]; simp
      simp only [hT]
      refine ret_shift (.joinO [0, 1] (Gs := [[_], _]) ⟨.inl ⟨_, rfl, .own⟩, .inl ⟨_, rfl, .o⟩, trivial⟩ rfl (G := threadsO y ys) (.of_eq (by simp [threadsO, nestO]))) ?_
      exact retw [0] ⟨y, ys, rfl, by rw [hy, List.take_of_length_le (by simpa using hge)], rfl⟩ ⟨.inl ⟨_, rfl, rfl⟩, trivial⟩ rfl ⟨rfl, trivial⟩ (fun _ => rfl)

set_option maxRecDepth 100000 in
theorem eqOpSS_c (h h2 : Sl) (xs ys : List OpSH) (w : World) (hh : At w [fR (threadsO h xs), fR (threadsO h2 ys)]) (hl : xs.length ≤ 1048576) (hb : ∀ x ∈ xs, OpS.small20 x.m) (hb2 : ∀ x ∈ ys, OpS.small20 x.m) :
    Calls Tryz.prog 82 #[h.val xs.length, h2.val ys.length] w (Ret w fun v L => v = .bool (decide (xs.map (·.m) = ys.map (·.m))) ∧ L = []) := by
  refine calls2 Tryz.func82 rfl tabOk w _ rfl _ rfl _ hh ⟨rfl, rfl, rfl, rfl, trivial⟩ _ _ (by decide) ?_
  refine CaseB.mk (fun g => ?_) (fun g => ?_)
  · have hne : xs.map (·.m) ≠ ys.map (·.m) := fun e => by
      have := congrArg List.length e
      simp at this g
      omega
    refine retw [] ⟨?_, rfl⟩ trivial rfl trivial (fun _ => rfl)
    simp [hne]
  · have hll : xs.length = ys.length := by simp at g; omega
    refine LoopW.mk ⟨{ k : Nat // k ≤ xs.length ∧ (xs.map (·.m)).take k = (ys.map (·.m)).take k },
      fun p => .mk [(0, .v (h.val xs.length)), (1, .v (h2.val ys.length)), (5, .v (.int .i64 p.1))] 0 0 [] [] [fR (threadsO h xs), fR (threadsO h2 ys)],
      fun p => xs.length - p.1, ⟨0, Nat.zero_le _, rfl⟩, ?_, ?_⟩
    · refine weak_mk [0, 1] ?_ ?_ ?_ ?_ ?_ rfl rfl
      · repeat (first | exact trivial | refine ⟨⟨_, rfl, (by first | exact .of rfl | exact .lit rfl | exact .of (by first | (rfl)) | exact .lit (by first | (rfl))), (by first | exact trivial | exact Nat.le_of_ble_eq_true rfl)⟩, ?_⟩)
      · repeat (first | exact trivial | refine ⟨⟨(by first | exact .head _ | exact .tail _ (.head _) | exact .tail _ (.tail _ (.head _)) | exact .tail _ (.tail _ (.tail _ (.head _))) | exact .tail _ (.tail _ (.tail _ (.tail _ (.head _)))) | exact .tail _ (.tail _ (.tail _ (.tail _ (.tail _ (.head _))))) | exact .tail _ (.tail _ (.tail _ (.tail _ (.tail _ (.tail _ (.head _)))))) | exact .tail _ (.tail _ (.tail _ (.tail _ (.tail _ (.tail _ (.tail _ (.head _))))))) | exact .tail _ (.tail _ (.tail _ (.tail _ (.tail _ (.tail _ (.tail _ (.tail _ (.head _)))))))) | exact .tail _ (.tail _ (.tail _ (.tail _ (.tail _ (.tail _ (.tail _ (.tail _ (.tail _ (.head _)))))))))), Nat.le_of_ble_eq_true rfl⟩, ?_⟩)
      · repeat (first | exact trivial | refine ⟨⟨_, rfl, (by first | exact .of rfl | exact .lit rfl | exact .of (by first | (rfl)) | exact .lit (by first | (rfl))), (by first | exact trivial | exact Nat.le_of_ble_eq_true rfl)⟩, ?_⟩)
      · repeat (first | exact trivial | refine ⟨⟨_, rfl⟩, ?_⟩)
      · repeat (first | exact trivial | refine ⟨.inl ⟨_, rfl, (by first | rfl | (rfl))⟩, ?_⟩ | refine ⟨.inr ⟨Nat.le_of_ble_eq_true rfl, rfl, rfl, rfl, rfl⟩, ?_⟩)
    · rintro ⟨k, hk, he⟩
      refine CaseB.mk (fun g2 => ?_) (fun g2 => ?_)
      · have hlt : k < xs.length := by simpa using g2
        have hlt2 : k < ys.length := by omega
        obtain ⟨q1, q2⟩ := take_eq_succ he (by simpa using hlt) (by simpa using hlt2)
        simp only [List.getElem_map] at q1 q2
        refine draw_start tabOk (by kernel_rfl) (by kernel_rfl) (by kernel_rfl) 200 [] [0, 1] [_, _] trivial trivial ⟨rfl, rfl, trivial⟩ rfl ?_
        refine d_idx (ti := tiOf tab) encOpSH tabOk rfl rfl rfl rfl rfl ⟨rfl, rfl⟩ (rdVia 0 rfl (.ofR nest_h)) k rfl (by first | omega | (simp; done) | (simp; omega) | (unfold maxLen; omega) | (unfold maxLen; simp; done) | (unfold maxLen; simp; omega)) (fun ad => ?_)
        refine d_idx (ti := tiOf tab) encOpSH tabOk rfl rfl rfl rfl rfl ⟨rfl, rfl⟩ (rdVia 1 rfl (.ofR nest_h)) k rfl (by first | omega | (simp; done) | (simp; omega) | (unfold maxLen; omega) | (unfold maxLen; simp; done) | (unfold maxLen; simp; omega)) (fun ad2 => ?_)
        refine d_call _ cl151 rfl rfl rfl rfl ⟨rfl, rfl⟩ (fun A w hW => eqOpS_c _ _ _ _ w ⟨hW.get 0 rfl (.ofR (threadsO_0 h xs k hlt)), hW.get 1 rfl (.ofR (threadsO_0 h2 ys k hlt2)), trivial⟩ (Nat.le_trans (hb _ (List.getElem_mem hlt)) (by decide)) (Nat.le_trans (hb2 _ (List.getElem_mem hlt2)) (by decide))) ?_
        rintro v L ⟨rfl, rfl⟩
        refine CaseB.mk (fun g3 => ?_) (fun g3 => ?_)
        · have hne := q2 (by simpa using g3)
          refine retw [] ⟨?_, rfl⟩ trivial rfl trivial (fun _ => rfl)
          simp [hne]
        · have heq := q1 (by simpa using g3)
          have hw := e_succ k _ hlt (by omega)
          refine ⟨⟨k + 1, by omega, heq⟩, ?_, by simp; omega⟩
          refine weak_mk [0, 1] ?_ ?_ ?_ ?_ ?_ rfl rfl
          · repeat (first | exact trivial | refine ⟨⟨_, rfl, (by first | exact .of rfl | exact .lit rfl | exact .of (by first | ((exact congrArg (fun z => SV.v (Value.int .i64 z)) hw))) | exact .lit (by first | ((exact congrArg (fun z => SV.v (Value.int .i64 z)) hw)))), (by first | exact trivial | exact Nat.le_of_ble_eq_true rfl)⟩, ?_⟩)
          · repeat (first | exact trivial | refine ⟨⟨(by first | exact .head _ | exact .tail _ (.head _) | exact .tail _ (.tail _ (.head _)) | exact .tail _ (.tail _ (.tail _ (.head _))) | exact .tail _ (.tail _ (.tail _ (.tail _ (.head _)))) | exact .tail _ (.tail _ (.tail _ (.tail _ (.tail _ (.head _))))) | exact .tail _ (.tail _ (.tail _ (.tail _ (.tail _ (.tail _ (.head _)))))) | exact .tail _ (.tail _ (.tail _ (.tail _ (.tail _ (.tail _ (.tail _ (.head _))))))) | exact .tail _ (.tail _ (.tail _ (.tail _ (.tail _ (.tail _ (.tail _ (.tail _ (.head _)))))))) | exact .tail _ (.tail _ (.tail _ (.tail _ (.tail _ (.tail _ (.tail _ (.tail _ (.tail _ (.head _)))))))))), Nat.le_of_ble_eq_true rfl⟩, ?_⟩)
          · repeat (first | exact trivial | refine ⟨⟨_, rfl, (by first | exact .of rfl | exact .lit rfl | exact .of (by first | ((exact congrArg (fun z => SV.v (Value.int .i64 z)) hw))) | exact .lit (by first | ((exact congrArg (fun z => SV.v (Value.int .i64 z)) hw)))), (by first | exact trivial | exact Nat.le_of_ble_eq_true rfl)⟩, ?_⟩)
          · repeat (first | exact trivial | refine ⟨⟨_, rfl⟩, ?_⟩)
          · repeat (first | exact trivial | refine ⟨.inl ⟨_, rfl, (by first | rfl | ((exact congrArg (fun z => SV.v (Value.int .i64 z)) hw)))⟩, ?_⟩ | refine ⟨.inr ⟨Nat.le_of_ble_eq_true rfl, rfl, rfl, rfl, rfl⟩, ?_⟩)
      · have hge : xs.length ≤ k := by simpa using g2
        have heq : xs.map (·.m) = ys.map (·.m) := by rw [List.take_of_length_le (by simpa using hge), List.take_of_length_le (by simp; omega)] at he; exact he
        refine retw [] ⟨?_, rfl⟩ trivial rfl trivial (fun _ => rfl)
        simp [heq]

end Go.Proofs.YtklclbcckjhdpaaGreat

namespace Go.Proofs.YtklclbcckjhdpaaGreat

open Go Go.Sx Go.RowKit

def Prog.small20 (s : Prog) : Prop := s.sems.length ≤ 1048576 ∧ s.groups.length ≤ 1048576 ∧ s.barriers.length ≤ 1048576 ∧ s.rooms.length ≤ 1048576 ∧ allS OpS.small20 s.threads

def szProgM (s : Prog) (left : Int) : Int := szSeq [szN s.sems.length, szN s.groups.length, szN s.barriers.length, szN s.rooms.length, szAll szOpSM s.threads] left

theorem szProgM_gen (s : Prog) (l : Int) (hl : l ≤ 1048576) (h : ¬ szProgM s l < 0) : s.small20 ∧ szProgM s l ≤ l := by
  simp only [szProgM, szSeq, szList] at h ⊢
  by_cases q0 : szN s.sems.length l < 0
  · simp [q0] at h
  obtain ⟨p0, r0⟩ := szN_gen hl q0
  have t0 : szN s.sems.length l ≤ 1048576 := Int.le_trans r0 hl
  by_cases q1 : szN s.groups.length (szN s.sems.length l) < 0
  · simp [q0, q1] at h
  obtain ⟨p1, r1⟩ := szN_gen t0 q1
  have t1 : szN s.groups.length (szN s.sems.length l) ≤ 1048576 := Int.le_trans r1 t0
  by_cases q2 : szN s.barriers.length (szN s.groups.length (szN s.sems.length l)) < 0
  · simp [q0, q1, q2] at h
  obtain ⟨p2, r2⟩ := szN_gen t1 q2
  have t2 : szN s.barriers.length (szN s.groups.length (szN s.sems.length l)) ≤ 1048576 := Int.le_trans r2 t1
  by_cases q3 : szN s.rooms.length (szN s.barriers.length (szN s.groups.length (szN s.sems.length l))) < 0
  · simp [q0, q1, q2, q3] at h
  obtain ⟨p3, r3⟩ := szN_gen t2 q3
  have t3 : szN s.rooms.length (szN s.barriers.length (szN s.groups.length (szN s.sems.length l))) ≤ 1048576 := Int.le_trans r3 t2
  by_cases q4 : szAll szOpSM s.threads (szN s.rooms.length (szN s.barriers.length (szN s.groups.length (szN s.sems.length l)))) < 0
  · simp [q0, q1, q2, q3, q4] at h
  obtain ⟨p4, r4⟩ := szAll_gen szOpSM_gen t3 q4
  have t4 : szAll szOpSM s.threads (szN s.rooms.length (szN s.barriers.length (szN s.groups.length (szN s.sems.length l)))) ≤ 1048576 := Int.le_trans r4 t3
  simp only [q0, q1, q2, q3, q4, if_false]
  exact ⟨⟨p0, p1, p2, p3, p4⟩, by omega⟩

set_option maxHeartbeats 16000000 in
set_option maxRecDepth 100000 in
theorem szProg_c (s : ProgH) (left : Int) (w : World) (h : At w [fR (progO s)]) (h0 : -1 ≤ left) (h1 : left ≤ 1048576) :
    Calls Tryz.prog 12 #[progV s, .int .i64 left] w (Ret w fun v L => v = .int .i64 (szProgM s.pure left) ∧ L = []) := by
  have hz : szProgM s.pure left = szSeq [szN s.sems.length, szN s.groups.length, szN s.barriers.length, szN s.rooms.length, szAll szOpSM (s.threads.map (·.m))] left := rfl
  simp only [szSeq, szList] at hz
  refine calls2 Tryz.func12 rfl tabOk w _ rfl _ rfl _ h ⟨rfl, rfl, trivial⟩ _ _ (by decide) ?_
  refine stop_call _ cl44 rfl rfl rfl rfl ⟨rfl, rfl⟩ (fun A w hW => ret_abs (szIntS_c s.h0 s.sems left w ⟨hW.get 0 rfl (.ofR (progO_sems s)), trivial⟩ h0 h1)) ?_
  rintro v L ⟨a0, e0, rfl, rfl⟩
  have r0 : ¬ szN s.sems.length left < 0 → szN s.sems.length left ≤ left := fun q => (szN_gen h1 q).2
  simp only [← e0] at hz
  rw [← e0] at r0
  refine CaseB.mk (fun g => ?_) (fun g => ?_)
  · have q : a0 < 0 := by simpa using g
    exact retw [] ⟨by rw [hz]; simp [q], rfl⟩ trivial rfl trivial (fun _ => rfl)
  have q0 : ¬ a0 < 0 := by simpa using g
  have u0 : -1 ≤ a0 := by omega
  have v0 : a0 ≤ 1048576 := Int.le_trans (r0 q0) h1
  refine stop_call _ cl44 rfl rfl rfl rfl ⟨rfl, rfl⟩ (fun A w hW => ret_abs (szIntS_c s.h1 s.groups a0 w ⟨hW.get 0 rfl (.ofR (progO_groups s)), trivial⟩ u0 v0)) ?_
  rintro v L ⟨a1, e1, rfl, rfl⟩
  have r1 : ¬ szN s.groups.length a0 < 0 → szN s.groups.length a0 ≤ a0 := fun q => (szN_gen v0 q).2
  simp only [← e1] at hz
  rw [← e1] at r1
  refine CaseB.mk (fun g => ?_) (fun g => ?_)
  · have q : a1 < 0 := by simpa using g
    exact retw [] ⟨by rw [hz]; simp [q0, q], rfl⟩ trivial rfl trivial (fun _ => rfl)
  have q1 : ¬ a1 < 0 := by simpa using g
  have u1 : -1 ≤ a1 := by omega
  have v1 : a1 ≤ 1048576 := Int.le_trans (r1 q1) v0
  refine stop_call _ cl44 rfl rfl rfl rfl ⟨rfl, rfl⟩ (fun A w hW => ret_abs (szIntS_c s.h2 s.barriers a1 w ⟨hW.get 0 rfl (.ofR (progO_barriers s)), trivial⟩ u1 v1)) ?_
  rintro v L ⟨a2, e2, rfl, rfl⟩
  have r2 : ¬ szN s.barriers.length a1 < 0 → szN s.barriers.length a1 ≤ a1 := fun q => (szN_gen v1 q).2
  simp only [← e2] at hz
  rw [← e2] at r2
  refine CaseB.mk (fun g => ?_) (fun g => ?_)
  · have q : a2 < 0 := by simpa using g
    exact retw [] ⟨by rw [hz]; simp [q0, q1, q], rfl⟩ trivial rfl trivial (fun _ => rfl)
  have q2 : ¬ a2 < 0 := by simpa using g
  have u2 : -1 ≤ a2 := by omega
  have v2 : a2 ≤ 1048576 := Int.le_trans (r2 q2) v1
  refine stop_call _ cl44 rfl rfl rfl rfl ⟨rfl, rfl⟩ (fun A w hW => ret_abs (szIntS_c s.h3 s.rooms a2 w ⟨hW.get 0 rfl (.ofR (progO_rooms s)), trivial⟩ u2 v2)) ?_
  rintro v L ⟨a3, e3, rfl, rfl⟩
  have r3 : ¬ szN s.rooms.length a2 < 0 → szN s.rooms.length a2 ≤ a2 := fun q => (szN_gen v2 q).2
  simp only [← e3] at hz
  rw [← e3] at r3
  refine CaseB.mk (fun g => ?_) (fun g => ?_)
  · have q : a3 < 0 := by simpa using g
    exact retw [] ⟨by rw [hz]; simp [q0, q1, q2, q], rfl⟩ trivial rfl trivial (fun _ => rfl)
  have q3 : ¬ a3 < 0 := by simpa using g
  have u3 : -1 ≤ a3 := by omega
  have v3 : a3 ≤ 1048576 := Int.le_trans (r3 q3) v2
  refine stop_call _ cl45 rfl rfl rfl rfl ⟨rfl, rfl⟩ (fun A w hW => ret_abs (szOpSS_c s.h4 s.threads a3 w ⟨hW.get 0 rfl (.R_R (progO_threads s)), trivial⟩ u3 v3)) ?_
  rintro v L ⟨a4, e4, rfl, rfl⟩
  have r4 : ¬ szAll szOpSM (s.threads.map (·.m)) a3 < 0 → szAll szOpSM (s.threads.map (·.m)) a3 ≤ a3 := fun q => (szAll_gen szOpSM_gen v3 q).2
  simp only [← e4] at hz
  rw [← e4] at r4
  refine CaseB.mk (fun g => ?_) (fun g => ?_)
  · have q : a4 < 0 := by simpa using g
    exact retw [] ⟨by rw [hz]; simp [q0, q1, q2, q3, q], rfl⟩ trivial rfl trivial (fun _ => rfl)
  have q4 : ¬ a4 < 0 := by simpa using g
  have u4 : -1 ≤ a4 := by omega
  have v4 : a4 ≤ 1048576 := Int.le_trans (r4 q4) v3
  refine retw [] ⟨?_, rfl⟩ trivial rfl trivial (fun _ => rfl)
  rw [hz]; simp [q0, q1, q2, q3, q4]

set_option maxHeartbeats 16000000 in
set_option maxRecDepth 100000 in
theorem toProg_c (s : ProgH) (w : World) (h : At w [fR (progO s)]) (hb : s.pure.small20) :
    Calls Tryz.prog 15 #[progV s] w (Ret w fun v L => ∃ y : ProgH, v = progV y ∧ y.pure = s.pure ∧ L = [fO (progO y)]) := by
  obtain ⟨b0, b1, b2, b3, b4⟩ := hb
  refine calls1 Tryz.func15 rfl tabOk w _ rfl _ rfl _ h ⟨rfl, rfl, trivial⟩ _ (by decide) ?_
  refine stop_call _ cl40 rfl rfl rfl rfl ⟨rfl, rfl⟩ (fun A w hW => toIntS_c s.h0 s.sems w ⟨hW.get 0 rfl (.ofR (progO_sems s)), trivial⟩ b0) ?_
  rintro v L ⟨y0, rfl, rfl⟩
  refine stop_call _ cl40 rfl rfl rfl rfl ⟨rfl, rfl⟩ (fun A w hW => toIntS_c s.h1 s.groups w ⟨hW.get 1 rfl (.ofR (progO_groups s)), trivial⟩ b1) ?_
  rintro v L ⟨y1, rfl, rfl⟩
  refine stop_call _ cl40 rfl rfl rfl rfl ⟨rfl, rfl⟩ (fun A w hW => toIntS_c s.h2 s.barriers w ⟨hW.get 2 rfl (.ofR (progO_barriers s)), trivial⟩ b2) ?_
  rintro v L ⟨y2, rfl, rfl⟩
  refine stop_call _ cl40 rfl rfl rfl rfl ⟨rfl, rfl⟩ (fun A w hW => toIntS_c s.h3 s.rooms w ⟨hW.get 3 rfl (.ofR (progO_rooms s)), trivial⟩ b3) ?_
  rintro v L ⟨y3, rfl, rfl⟩
  refine stop_call _ cl54 rfl rfl rfl rfl ⟨rfl, rfl⟩ (fun A w hW => toOpSS_c s.h4 s.threads w ⟨hW.get 4 rfl (.R_R (progO_threads s)), trivial⟩ (allS_map b4).1 (allS_map b4).2) ?_
  rintro v L ⟨y4, ys4, rfl, e4, rfl⟩
  generalize hy : (⟨s.sems, s.groups, s.barriers, s.rooms, ys4, y0, y1, y2, y3, y4⟩ : ProgH) = y
  refine ret_shift (.joinO [4, 3, 2, 1, 0] (Gs := [[_], [_], [_], [_], _]) ⟨.inl ⟨_, rfl, .own⟩, .inl ⟨_, rfl, .own⟩, .inl ⟨_, rfl, .own⟩, .inl ⟨_, rfl, .own⟩, .inl ⟨_, rfl, .o⟩, trivial⟩ rfl (G := progO y) ?_) ?_
  · subst hy; exact .of_eq (by simp [progO])
  exact retw [0] ⟨y, by rw [← hy]; rfl, by rw [← hy]; simp [ProgH.pure, e4], rfl⟩ ⟨.inl ⟨_, rfl, rfl⟩, trivial⟩ rfl ⟨rfl, trivial⟩ (fun _ => rfl)

set_option maxHeartbeats 16000000 in
set_option maxRecDepth 100000 in
theorem eqProg_c (s t : ProgH) (w : World) (h : At w [fR (progO s), fR (progO t)]) (hb : s.pure.small20) (hb2 : t.pure.small20) :
    Calls Tryz.prog 19 #[progV s, progV t] w (Ret w fun v L => v = .bool (decide (s.pure = t.pure)) ∧ L = []) := by
  have hx : s.pure = t.pure ↔ s.sems = t.sems ∧ s.groups = t.groups ∧ s.barriers = t.barriers ∧ s.rooms = t.rooms ∧ s.threads.map (·.m) = t.threads.map (·.m) := by
    simp only [ProgH.pure, Prog.mk.injEq]
  obtain ⟨b0, b1, b2, b3, b4⟩ := hb
  obtain ⟨c0, c1, c2, c3, c4⟩ := hb2
  refine calls2 Tryz.func19 rfl tabOk w _ rfl _ rfl _ h ⟨rfl, rfl, rfl, rfl, trivial⟩ _ _ (by decide) ?_
  refine stop_call _ cl36 rfl rfl rfl rfl ⟨rfl, rfl⟩ (fun A w hW => eqIntS_c s.h0 t.h0 s.sems t.sems w ⟨hW.get 0 rfl (.ofR (progO_sems s)), hW.get 1 rfl (.ofR (progO_sems t)), trivial⟩ (Nat.le_trans b0 (by decide)) (Nat.le_trans c0 (by decide))) ?_
  rintro v L ⟨rfl, rfl⟩
  refine CaseB.mk (fun g0 => ?_) (fun g0 => ?_)
  · have g : ¬ s.pure = t.pure := fun e => by rw [hx] at e; simp [e] at g0
    exact retw [] ⟨by simp [g], rfl⟩ trivial rfl trivial (fun _ => rfl)
  refine stop_call _ cl36 rfl rfl rfl rfl ⟨rfl, rfl⟩ (fun A w hW => eqIntS_c s.h1 t.h1 s.groups t.groups w ⟨hW.get 0 rfl (.ofR (progO_groups s)), hW.get 1 rfl (.ofR (progO_groups t)), trivial⟩ (Nat.le_trans b1 (by decide)) (Nat.le_trans c1 (by decide))) ?_
  rintro v L ⟨rfl, rfl⟩
  refine CaseB.mk (fun g1 => ?_) (fun g1 => ?_)
  · have g : ¬ s.pure = t.pure := fun e => by rw [hx] at e; simp [e] at g1
    exact retw [] ⟨by simp [g], rfl⟩ trivial rfl trivial (fun _ => rfl)
  refine stop_call _ cl36 rfl rfl rfl rfl ⟨rfl, rfl⟩ (fun A w hW => eqIntS_c s.h2 t.h2 s.barriers t.barriers w ⟨hW.get 0 rfl (.ofR (progO_barriers s)), hW.get 1 rfl (.ofR (progO_barriers t)), trivial⟩ (Nat.le_trans b2 (by decide)) (Nat.le_trans c2 (by decide))) ?_
  rintro v L ⟨rfl, rfl⟩
  refine CaseB.mk (fun g2 => ?_) (fun g2 => ?_)
  · have g : ¬ s.pure = t.pure := fun e => by rw [hx] at e; simp [e] at g2
    exact retw [] ⟨by simp [g], rfl⟩ trivial rfl trivial (fun _ => rfl)
  refine stop_call _ cl36 rfl rfl rfl rfl ⟨rfl, rfl⟩ (fun A w hW => eqIntS_c s.h3 t.h3 s.rooms t.rooms w ⟨hW.get 0 rfl (.ofR (progO_rooms s)), hW.get 1 rfl (.ofR (progO_rooms t)), trivial⟩ (Nat.le_trans b3 (by decide)) (Nat.le_trans c3 (by decide))) ?_
  rintro v L ⟨rfl, rfl⟩
  refine CaseB.mk (fun g3 => ?_) (fun g3 => ?_)
  · have g : ¬ s.pure = t.pure := fun e => by rw [hx] at e; simp [e] at g3
    exact retw [] ⟨by simp [g], rfl⟩ trivial rfl trivial (fun _ => rfl)
  refine stop_call _ cl82 rfl rfl rfl rfl ⟨rfl, rfl⟩ (fun A w hW => eqOpSS_c s.h4 t.h4 s.threads t.threads w ⟨hW.get 0 rfl (.R_R (progO_threads s)), hW.get 1 rfl (.R_R (progO_threads t)), trivial⟩ (allS_map b4).1 (allS_map b4).2 (allS_map c4).2) ?_
  rintro v L ⟨rfl, rfl⟩
  refine CaseB.mk (fun g4 => ?_) (fun g4 => ?_)
  · have g : ¬ s.pure = t.pure := fun e => by rw [hx] at e; simp [e] at g4
    exact retw [] ⟨by simp [g], rfl⟩ trivial rfl trivial (fun _ => rfl)
  have g : s.pure = t.pure := hx.2 ⟨by simpa using g0, by simpa using g1, by simpa using g2, by simpa using g3, by simpa using g4⟩
  exact retw [] ⟨by simp [g], rfl⟩ trivial rfl trivial (fun _ => rfl)

end Go.Proofs.YtklclbcckjhdpaaGreat

namespace Go.Proofs.YtklclbcckjhdpaaGreat

open Go Go.Sx Go.RowKit

theorem neWait (x y : Waiting) (w : World) : (binOp .neq 153 (.agg (cWait x).toArray) (.agg (cWait y).toArray)).run Tryz.prog w = .ok (.bool (decide (x ≠ y))) w := by
  have h := neq_ints (P := Tryz.prog) (t := 153) (it := 3) (xs := [x.kind, x.on, x.arg]) (ys := [y.kind, y.on, y.arg]) (by kernel_rfl) (by kernel_rfl) (by kernel_rfl) rfl (by kernel_rfl) w
  have e : ([x.kind, x.on, x.arg] ≠ [y.kind, y.on, y.arg]) ↔ x ≠ y := by cases x; cases y; simp
  rw [show decide (x ≠ y) = decide ([x.kind, x.on, x.arg] ≠ [y.kind, y.on, y.arg]) from by simp only [e]]
  exact h

/-- What is told of a key. -/
def ofKey {β : Type} (es : List (Int × β)) (t : Int) : List β := (es.filter fun e => e.1 == t).map (·.2)

theorem aget_aset {β : Type} (m : List (Int × β)) (k : Int) (v : β) (t : Int) : aget (aset m k v) t = if k = t then some v else aget m t := by
  induction m with
  | nil => simp only [aset, aget]
  | cons p r ih =>
    obtain ⟨q, u⟩ := p
    simp only [aset]
    by_cases e : q = k
    · subst e
      simp only [if_true, aget]
      by_cases e2 : q = t <;> simp [e2]
    · simp only [e, if_false, aget, ih]
      by_cases e2 : q = t
      · subst e2
        have : ¬ k = q := fun h => e h.symm
        simp [this]
      · simp [e2]

theorem mapOf_get {β : Type} (es : List (Int × β)) (t : Int) : aget (mapOf es) t = if ofKey es t = [] then none else some (ofKey es t) := by
  have : ∀ (es : List (Int × β)) (m : List (Int × List β)) (f : List β), (aget m t = if f = [] then none else some f) → aget (es.foldl addM m) t = if f ++ ofKey es t = [] then none else some (f ++ ofKey es t) := fun es => by
    induction es with
    | nil => intro m f h; simpa [ofKey] using h
    | cons e r ih =>
      intro m f h
      obtain ⟨k, x⟩ := e
      simp only [List.foldl_cons]
      by_cases hk : k = t
      · subst hk
        have h1 : aget (addM m (k, x)) k = some (f ++ [x]) := by
          rw [addM, aget_aset, if_pos rfl, h]
          by_cases hf : f = []
          · simp [hf]
          · simp [hf]
        have := ih (addM m (k, x)) (f ++ [x]) (by rw [h1]; simp)
        rw [this]
        simp [ofKey]
      · have h1 : aget (addM m (k, x)) t = aget m t := by rw [addM, aget_aset, if_neg hk]
        have := ih (addM m (k, x)) f (by rw [h1]; exact h)
        rw [this]
        have e2 : ofKey ((k, x) :: r) t = ofKey r t := by simp [ofKey, hk]
        rw [e2]
  have := this es [] [] (by simp [aget])
  simpa [mapOf] using this

theorem mapOf_getD {β : Type} (es : List (Int × β)) (t : Int) : (aget (mapOf es) t).getD [] = ofKey es t := by
  rw [mapOf_get]
  by_cases h : ofKey es t = [] <;> simp [h]

theorem ofKey_nil {β : Type} {es : List (Int × β)} {t : Int} : ofKey es t = [] ↔ ∀ e ∈ es, e.1 ≠ t := by
  simp [ofKey, List.filter_eq_nil_iff]

/-- Keys come once. -/
def keyed {β : Type} (m : List (Int × β)) : Prop := (m.map (·.1)).Nodup

theorem aset_keys {β : Type} (m : List (Int × β)) (k : Int) (v : β) : (aset m k v).map (·.1) = if k ∈ m.map (·.1) then m.map (·.1) else m.map (·.1) ++ [k] := by
  induction m with
  | nil => simp [aset]
  | cons p r ih =>
    obtain ⟨q, u⟩ := p
    simp only [aset]
    by_cases e : q = k
    · simp [e]
    · have e' : ¬ k = q := fun h => e h.symm
      simp only [e, if_false, List.map_cons, ih, List.mem_cons, e', false_or]
      split <;> simp

theorem mapOf_keyed {β : Type} (es : List (Int × β)) : keyed (mapOf es) := by
  have : ∀ (es : List (Int × β)) (m : List (Int × List β)), keyed m → keyed (es.foldl addM m) := fun es => by
    induction es with
    | nil => intro m h; exact h
    | cons e r ih =>
      intro m h
      refine ih _ ?_
      simp only [keyed, addM, aset_keys] at h ⊢
      split
      · exact h
      · rename_i hn
        rw [List.nodup_append]
        exact ⟨h, by simp, fun a ha b hb => by simp at hb; subst hb; rintro rfl; exact hn ha⟩
  exact this es [] (by simp [keyed])

theorem keyed_pm {β : Type} {ps : List (Int × LH β)} : keyed (pm ps) ↔ keyed ps := by
  simp [keyed, pm, Function.comp_def]

theorem aget_none {β : Type} {m : List (Int × β)} {t : Int} : aget m t = none ↔ t ∉ m.map (·.1) := by
  induction m with
  | nil => simp [aget]
  | cons p r ih =>
    obtain ⟨q, u⟩ := p
    simp only [aget]
    by_cases e : q = t
    · simp [e]
    · have e' : ¬ t = q := fun h => e h.symm
      simp [e, e', ih]

theorem aget_in {β : Type} {m : List (Int × β)} {t : Int} {u : β} (h : aget m t = some u) : (t, u) ∈ m := by
  induction m with
  | nil => simp [aget] at h
  | cons p r ih =>
    obtain ⟨q, v⟩ := p
    simp only [aget] at h
    by_cases e : q = t
    · simp only [e, if_true, Option.some.injEq] at h
      subst h; subst e; simp
    · simp only [e, if_false] at h
      exact List.mem_cons_of_mem _ (ih h)

theorem adel_sub {β : Type} (m : List (Int × β)) (t : Int) : (adel m t).Sublist m := by
  induction m with
  | nil => exact .refl _
  | cons p r ih =>
    obtain ⟨q, v⟩ := p
    simp only [adel]
    split
    · exact List.sublist_cons_self _ _
    · exact ih.cons_cons _

theorem keyed_del {β : Type} {m : List (Int × β)} (h : keyed m) (t : Int) : keyed (adel m t) := h.sublist ((adel_sub m t).map _)

theorem aget_del {β : Type} {m : List (Int × β)} (h : keyed m) (t x : Int) : aget (adel m t) x = if x = t then none else aget m x := by
  induction m with
  | nil => simp [adel, aget]
  | cons p r ih =>
    obtain ⟨q, v⟩ := p
    have hq : q ∉ r.map (·.1) ∧ keyed r := by simpa [keyed] using h
    simp only [adel]
    by_cases e : q = t
    · subst e
      simp only [if_true]
      by_cases ex : x = q
      · subst ex; simp only [if_true]; exact aget_none.2 hq.1
      · have : ¬ q = x := fun h => ex h.symm
        simp [ex, aget, this]
    · simp only [e, if_false, aget, ih hq.2]
      by_cases ex : q = x
      · subst ex; simp [e]
      · simp [ex]

theorem nil_of_none {β : Type} {m : List (Int × β)} (h : ∀ x, aget m x = none) : m = [] := by
  cases m with
  | nil => rfl
  | cons p r =>
    have := h p.1
    simp [aget] at this

theorem rows_in {β : Type} {ty : TypeId} {enc : β → List Value} {sz : Nat} {ps : List (Int × LH β)} {t : Int} {u : LH β} (h : (t, u) ∈ ps) : RdIn (rowsM ty enc sz ps) (slo u.q enc sz u.xs) :=
  RdIn.own (o := false) (e := ty) (List.mem_flatMap.2 ⟨_, h, by simp⟩)

/-- What is left of a map when the keys from 0 up to k are taken out. -/
structure Left {β : Type} (ps qs : List (Int × LH β)) (k : Nat) : Prop where
  sub : qs.Sublist ps
  key : keyed qs
  get : ∀ x, aget qs x = if 0 ≤ x ∧ x < k then none else aget ps x

theorem Left.start {β : Type} {ps : List (Int × LH β)} (h : keyed ps) : Left ps ps 0 := ⟨.refl _, h, fun x => by rw [if_neg (by omega)]⟩

theorem Left.next {β : Type} {ps qs : List (Int × LH β)} {k : Nat} (h : Left ps qs k) : Left ps (adel qs (k : Int)) (k + 1) := by
  refine ⟨(adel_sub _ _).trans h.sub, keyed_del h.key _, fun x => ?_⟩
  rw [aget_del h.key, h.get]
  by_cases e : x = k
  · rw [if_pos e, if_pos (by omega)]
  · rw [if_neg e]
    by_cases e2 : 0 ≤ x ∧ x < k
    · rw [if_pos e2, if_pos (by omega)]
    · rw [if_neg e2, if_neg (by omega)]

theorem Left.at {β : Type} {ps qs : List (Int × LH β)} {k : Nat} (h : Left ps qs k) {es : List (Int × β)} (he : pm ps = mapOf es) : ((aget qs (k : Int)).getD LH.nil).xs = ofKey es k := by
  have h1 := h.get k
  rw [if_neg (by omega)] at h1
  have h2 := mapOf_getD es (k : Int)
  rw [← he, pm_aget] at h2
  rw [h1, ← h2]
  cases aget ps (k : Int) <;> rfl

theorem Left.done {β : Type} {ps qs : List (Int × LH β)} {k : Nat} (h : Left ps qs k) {es : List (Int × β)} (he : pm ps = mapOf es) : qs = [] ↔ ∀ e ∈ es, 0 ≤ e.1 ∧ e.1 < k := by
  constructor
  · rintro rfl e hm
    refine Classical.byContradiction fun hn => ?_
    have h1 := h.get e.1
    rw [if_neg hn] at h1
    have h2 := mapOf_get es e.1
    have h3 : ofKey es e.1 ≠ [] := fun h0 => ofKey_nil.1 h0 e hm rfl
    rw [if_neg h3, ← he, pm_aget, ← h1] at h2
    simp [aget] at h2
  · intro hall
    refine nil_of_none fun x => ?_
    rw [h.get]
    split
    · rfl
    · rename_i hn
      have h3 : ofKey es x = [] := ofKey_nil.2 fun e hm hx => hn (hx ▸ hall e hm)
      have h2 := mapOf_get es x
      rw [if_pos h3, ← he, pm_aget] at h2
      cases hq : aget ps x with
      | none => rfl
      | some u => rw [hq] at h2; simp at h2

/-- What a thread waits for that waits for its operation. -/
def want (o : Op) : Waiting := ⟨o.kind, o.on, if o.kind = 2 ∨ o.kind = 8 then o.arg else 0⟩

/-- A thread's place, status, and where it waits and what it owns. -/
def ThreadOk (ops : List Op) (at_ st : Int) (w : List Waiting) (o : List Int) : Prop :=
  0 ≤ at_ ∧ at_ ≤ ops.length ∧ ((at_ = ops.length ∧ st = 3 ∧ w = [] ∧ o = []) ∨
    ∃ op, ops[at_.toNat]? = some op ∧ ((st = 0 ∧ w = [] ∧ o = []) ∨ (st = 1 ∧ o = [] ∧ w = [want op]) ∨ (st = 2 ∧ w = [] ∧ op.kind = 4 ∧ o = [op.on])))

structure Fits (p : Prog) (s : State) : Prop where
  prog : ProgOk p
  np : s.places.length = p.threads.length
  ns : s.status.length = p.threads.length
  lsems : s.sems.length = p.sems.length
  lgroups : s.groups.length = p.groups.length
  lbarriers : s.barriers.length = p.barriers.length
  lchans : s.chans.length = p.rooms.length
  lonces : s.onces.length = 3
  lsaid : s.said.length ≤ 64
  f0 : 0 ≤ s.fault
  f4 : s.fault ≤ 4
  sems : ∀ (i : Nat) x, s.sems[i]? = some x → SemOk x ∧ p.sems[i]? = some x.limit
  groups : ∀ x ∈ s.groups, GroupOk x
  barriers : ∀ (i : Nat) x, s.barriers[i]? = some x → BarrierOk x ∧ p.barriers[i]? = some x.parties
  chans : ∀ (i : Nat) x, s.chans[i]? = some x → x.valid = true ∧ p.rooms[i]? = some x.room
  onces : ∀ x ∈ s.onces, OnceOk x
  said : ∀ v ∈ s.said, isValue v = true
  threads : ∀ (t : Nat) ops at_ st, p.threads[t]? = some ops → s.places[t]? = some at_ → s.status[t]? = some st → ThreadOk ops at_ st (ofKey (events s) t) (ofKey (owners s) t)
  ev : ∀ e ∈ events s, 0 ≤ e.1 ∧ e.1 < p.threads.length
  ow : ∀ e ∈ owners s, 0 ≤ e.1 ∧ e.1 < p.threads.length

theorem evL_len {α β : Type} {f : Nat → α → List β} {C : Nat} : ∀ {i : Nat} {xs : List α}, (∀ i x, x ∈ xs → (f i x).length ≤ C) → (evL f i xs).length ≤ xs.length * C
  | i, [], _ => by simp [evL]
  | i, x :: r, h => by
    have h1 := h i x (by simp)
    have h2 := evL_len (i := i + 1) (xs := r) fun i y hy => h i y (by simp [hy])
    have e : (r.length + 1) * C = r.length * C + C := Nat.succ_mul _ _
    simp only [evL, List.length_append, List.length_cons, e]
    omega

theorem onceOk_len {m : Once} (h : OnceOk m) : m.waits.length ≤ 6 := by
  rcases h with h | h | h
  · rw [h.2.2.2]; simp
  · exact distinct_len h.2.2.2.1
  · rw [h.2.2.2]; simp

theorem barrierOk_len {m : Barrier} (h : BarrierOk m) : m.waits.length ≤ 6 := distinct_len h.2.2.2.2.2

theorem groupOk_len {m : Group} (h : GroupOk m) : m.waits.length ≤ 6 := distinct_len h.2.1

theorem chanOk_len {m : Chan} (h : m.valid = true) : m.senders.length + m.getters.length ≤ 6 := by
  have hv : m.Valid := by simpa [Chan.valid] using h
  have := distinct_len hv.di
  simpa [Chan.threads] using this

end Go.Proofs.YtklclbcckjhdpaaGreat

namespace Go.Proofs.YtklclbcckjhdpaaGreat

open Go Go.Sx Go.RowKit

set_option maxHeartbeats 40000000 in
set_option maxRecDepth 100000 in
theorem stateFits_c (p : ProgH) (s : StateH) (w : World) (h : At w [fR (progO p), fR (stateO s)]) (hp : p.pure.small20) (hs : s.pure.small20) :
    Calls Tryz.prog 24 #[progV p, stateV s] w (Tells w (Fits p.pure s.pure)) := by
  obtain ⟨b0, b1, b2, b3, b4, b5, b6, b7⟩ := hs
  have mlen : ∀ {α β : Type} (f : α → β) (xs : List α), (xs.map f).length = xs.length := fun f xs => by simp
  have lt : p.pure.threads.length = p.threads.length := mlen _ _
  have l2 : s.pure.sems.length = s.sems.length := mlen _ _
  have l3 : s.pure.onces.length = s.onces.length := mlen _ _
  have l4 : s.pure.groups.length = s.groups.length := mlen _ _
  have l5 : s.pure.barriers.length = s.barriers.length := mlen _ _
  have l6 : s.pure.chans.length = s.chans.length := mlen _ _
  refine calls2 Tryz.func24 rfl tabOk w _ rfl _ rfl _ h ⟨rfl, rfl, rfl, rfl, trivial⟩ _ _ (by decide) ?_
  refine stop_call _ cl100 rfl rfl rfl rfl ⟨rfl, rfl⟩ (fun A w hW => progValid_c p w ⟨hW.get 0 rfl (.refl _), trivial⟩ ⟨hp.1, hp.2.1, hp.2.2.1, hp.2.2.2.1⟩) ?_
  rintro v L ⟨b, rfl, hb, rfl⟩
  refine CaseB.mk (fun g => ?_) (fun g => ?_)
  · exact retw [] ⟨_, rfl, tno fun e => (by rw [hb.2 e.prog] at g; cases g), rfl⟩ trivial rfl trivial (fun _ => rfl)
  have ok : ProgOk p.pure := hb.1 (by simpa using g)
  refine CaseB.mk (fun g => ?_) (fun g => ?_)
  · have q : ¬ s.places.length = p.threads.length := by simp at g; omega
    exact retw [] ⟨_, rfl, tno fun e => q (by have := e.np; simpa [StateH.pure, ProgH.pure] using this), rfl⟩ trivial rfl trivial (fun _ => rfl)
  have c0 : s.places.length = p.threads.length := by simp at g; omega
  refine CaseB.mk (fun g => ?_) (fun g => ?_)
  · have q : ¬ s.status.length = p.threads.length := by simp at g; omega
    exact retw [] ⟨_, rfl, tno fun e => q (by have := e.ns; simpa [StateH.pure, ProgH.pure] using this), rfl⟩ trivial rfl trivial (fun _ => rfl)
  have c1 : s.status.length = p.threads.length := by simp at g; omega
  refine CaseB.mk (fun g => ?_) (fun g => ?_)
  · have q : ¬ s.sems.length = p.sems.length := by simp at g; omega
    exact retw [] ⟨_, rfl, tno fun e => q (by have := e.lsems; simpa [StateH.pure, ProgH.pure] using this), rfl⟩ trivial rfl trivial (fun _ => rfl)
  have c2 : s.sems.length = p.sems.length := by simp at g; omega
  refine CaseB.mk (fun g => ?_) (fun g => ?_)
  · have q : ¬ s.groups.length = p.groups.length := by simp at g; omega
    exact retw [] ⟨_, rfl, tno fun e => q (by have := e.lgroups; simpa [StateH.pure, ProgH.pure] using this), rfl⟩ trivial rfl trivial (fun _ => rfl)
  have c4 : s.groups.length = p.groups.length := by simp at g; omega
  refine CaseB.mk (fun g => ?_) (fun g => ?_)
  · have q : ¬ s.barriers.length = p.barriers.length := by simp at g; omega
    exact retw [] ⟨_, rfl, tno fun e => q (by have := e.lbarriers; simpa [StateH.pure, ProgH.pure] using this), rfl⟩ trivial rfl trivial (fun _ => rfl)
  have c5 : s.barriers.length = p.barriers.length := by simp at g; omega
  refine CaseB.mk (fun g => ?_) (fun g => ?_)
  · have q : ¬ s.chans.length = p.rooms.length := by simp at g; omega
    exact retw [] ⟨_, rfl, tno fun e => q (by have := e.lchans; simpa [StateH.pure, ProgH.pure] using this), rfl⟩ trivial rfl trivial (fun _ => rfl)
  have c6 : s.chans.length = p.rooms.length := by simp at g; omega
  refine CaseB.mk (fun g => ?_) (fun g => ?_)
  · have q : ¬ s.onces.length = 3 := by simp at g; omega
    exact retw [] ⟨_, rfl, tno fun e => q (by have := e.lonces; simpa [StateH.pure, ProgH.pure] using this), rfl⟩ trivial rfl trivial (fun _ => rfl)
  have c3 : s.onces.length = 3 := by simp at g; omega
  refine CaseB.mk (fun g => ?_) (fun g => ?_)
  · have q : ¬ s.said.length ≤ 64 := by have g' := of_decide_eq_true g; omega
    exact retw [] ⟨_, rfl, tno fun e => q e.lsaid, rfl⟩ trivial rfl trivial (fun _ => rfl)
  have c7 : s.said.length ≤ 64 := by have g' := of_decide_eq_false g; omega
  refine CaseB.mk (fun g => ?_) (fun g => ?_)
  · have q : ¬ 0 ≤ s.fault := by have g' := of_decide_eq_true g; omega
    exact retw [] ⟨_, rfl, tno fun e => q e.f0, rfl⟩ trivial rfl trivial (fun _ => rfl)
  have c8 : 0 ≤ s.fault := by have g' := of_decide_eq_false g; omega
  refine CaseB.mk (fun g => ?_) (fun g => ?_)
  · have q : ¬ s.fault ≤ 4 := by have g' := of_decide_eq_true g; omega
    exact retw [] ⟨_, rfl, tno fun e => q e.f4, rfl⟩ trivial rfl trivial (fun _ => rfl)
  have c9 : s.fault ≤ 4 := by have g' := of_decide_eq_false g; omega
  have n4 : p.threads.length ≤ 4 := by have := ok.n4; rwa [lt] at this
  have m0 : p.sems.length ≤ 3 := ok.sems.1
  have m1 : p.groups.length ≤ 3 := ok.groups.1
  have m2 : p.barriers.length ≤ 3 := ok.barriers.1
  have m3 : p.rooms.length ≤ 3 := ok.rooms.1
  refine LoopW.mk ⟨{ k : Nat // k ≤ s.sems.length ∧ ∀ (i : Nat) x, i < k → s.pure.sems[i]? = some x → SemOk x ∧ p.pure.sems[i]? = some x.limit },
    fun k => .mk [(2, .p 0 0), (3, .p 1 0), (106, .v (s.h2.val s.sems.length)), (107, .v (.int .i64 (s.sems.length : Int))), (108, .v (.int .i64 (k.1 : Int)))] 2 0 [(0, 46, 5), (1, 41, 9)] [((0, 0), .v (p.h0.val p.sems.length)), ((0, 1), .v (p.h1.val p.groups.length)), ((0, 2), .v (p.h2.val p.barriers.length)), ((0, 3), .v (p.h3.val p.rooms.length)), ((0, 4), .v (p.h4.val p.threads.length)), ((1, 0), .v (s.h0.val s.places.length)), ((1, 1), .v (s.h1.val s.status.length)), ((1, 2), .v (s.h2.val s.sems.length)), ((1, 3), .v (s.h3.val s.onces.length)), ((1, 4), .v (s.h4.val s.groups.length)), ((1, 5), .v (s.h5.val s.barriers.length)), ((1, 6), .v (s.h6.val s.chans.length)), ((1, 7), .v (s.h7.val s.said.length)), ((1, 8), .v (.int .i64 s.fault))] [fR (progO p), fR (stateO s)],
    fun k => s.sems.length - k.1, ⟨0, Nat.zero_le _, fun i x hi => by omega⟩, ?_, ?_⟩
  · refine weak_mk [0, 1] ?_ ?_ ?_ ?_ ?_ rfl rfl
    · repeat (first | exact trivial | refine ⟨⟨_, rfl, (by first | exact .of rfl | exact .lit rfl | exact .of (by first | (rfl)) | exact .lit (by first | (rfl))), (by first | exact trivial | exact Nat.le_of_ble_eq_true rfl | exact small1 rfl)⟩, ?_⟩)
    · repeat (first | exact trivial | refine ⟨⟨(by first | exact .head _ | exact .tail _ (.head _) | exact .tail _ (.tail _ (.head _)) | exact .tail _ (.tail _ (.tail _ (.head _))) | exact .tail _ (.tail _ (.tail _ (.tail _ (.head _)))) | exact .tail _ (.tail _ (.tail _ (.tail _ (.tail _ (.head _))))) | exact .tail _ (.tail _ (.tail _ (.tail _ (.tail _ (.tail _ (.head _)))))) | exact .tail _ (.tail _ (.tail _ (.tail _ (.tail _ (.tail _ (.tail _ (.head _))))))) | exact .tail _ (.tail _ (.tail _ (.tail _ (.tail _ (.tail _ (.tail _ (.tail _ (.head _)))))))) | exact .tail _ (.tail _ (.tail _ (.tail _ (.tail _ (.tail _ (.tail _ (.tail _ (.tail _ (.head _)))))))))), Nat.le_of_ble_eq_true rfl⟩, ?_⟩)
    · repeat (first | exact trivial | refine ⟨⟨_, rfl, (by first | exact .of rfl | exact .lit rfl | exact .of (by first | (rfl)) | exact .lit (by first | (rfl))), (by first | exact trivial | exact Nat.le_of_ble_eq_true rfl | exact small1 rfl)⟩, ?_⟩)
    · repeat (first | exact trivial | refine ⟨⟨_, rfl⟩, ?_⟩)
    · repeat (first | exact trivial | refine ⟨.inl ⟨_, rfl, (by first | rfl | (rfl))⟩, ?_⟩ | refine ⟨.inr ⟨Nat.le_of_ble_eq_true rfl, rfl, rfl, rfl, rfl⟩, ?_⟩)
  rintro ⟨k, hk, hinv⟩
  refine CaseB.mk (fun g => ?_) (fun g => ?_)
  · have hlt : k < s.sems.length := by simpa using g
    have hw := e_succ k _ hlt (by omega)
    have hat : s.pure.sems[k]? = some (s.sems[k]).m := by simp [StateH.pure, hlt]
    have hsm := (allS_map b2).2 _ (List.getElem_mem hlt)
    unfold Sem.small20 at hsm
    refine stop_idx encSemH tabOk rfl rfl rfl rfl rfl ⟨rfl, rfl⟩ (rdVia 1 rfl (.trans (.R_R (stateO_sems s)) (.ofR nest_h))) k rfl (by first | omega | (simp; done) | (simp; omega) | (unfold maxLen; omega) | (unfold maxLen; simp; done) | (unfold maxLen; simp; omega)) (fun ad => ?_)
    refine draw_start tabOk (by kernel_rfl) (by kernel_rfl) (by kernel_rfl) 200 [((0, 0), .v (p.h0.val p.sems.length)), ((2, 0), .v (.int .i64 (s.sems[k]).m.free)), ((2, 1), .v (.int .i64 (s.sems[k]).m.limit)), ((2, 2), .v ((s.sems[k]).q.val (s.sems[k]).m.queue.length))] [0] [_] ⟨⟨_, rfl, rfl, (by first | exact trivial | exact Nat.le_of_ble_eq_true rfl)⟩, ⟨_, rfl, rfl, (by first | exact trivial | exact Nat.le_of_ble_eq_true rfl)⟩, ⟨_, rfl, rfl, (by first | exact trivial | exact Nat.le_of_ble_eq_true rfl)⟩, ⟨_, rfl, rfl, (by first | exact trivial | exact Nat.le_of_ble_eq_true rfl)⟩, trivial⟩ ⟨⟨_, rfl⟩, ⟨_, rfl⟩, ⟨_, rfl⟩, ⟨_, rfl⟩, trivial⟩ ⟨rfl, trivial⟩ rfl ?_
    refine d_call _ cl101 rfl rfl rfl rfl ⟨rfl, rfl⟩ (fun A w hW => semValid_c _ _ w ⟨hW.get 1 rfl (.trans (.R_R (stateO_sems s)) (.ofR (semsO_0 _ _ k hlt))), trivial⟩ (by omega)) ?_
    rintro v L ⟨bb, rfl, hbb, rfl⟩
    refine CaseB.mk (fun g => ?_) (fun g => ?_)
    · exact retw [] ⟨_, rfl, tno fun e => (by rw [hbb.2 ((e.sems k _ hat).1)] at g; cases g), rfl⟩ trivial rfl trivial (fun _ => rfl)
    have q1 := hbb.1 (by simpa using g)
    have hlp : k < p.sems.length := by omega
    have hpat : p.pure.sems[k]? = some p.sems[k] := by simp [ProgH.pure, hlp]
    refine d_idx (ti := tiOf tab) encInt tabOk rfl rfl rfl rfl rfl ⟨rfl, rfl⟩ (rdVia 0 rfl (.ofR (progO_sems p))) k rfl (by first | omega | (simp; done) | (simp; omega) | (unfold maxLen; omega) | (unfold maxLen; simp; done) | (unfold maxLen; simp; omega)) (fun ad2 => ?_)
    refine CaseB.mk (fun g => ?_) (fun g => ?_)
    · have q : ¬ (s.sems[k]).m.limit = p.sems[k] := by simpa using g
      exact retw [] ⟨_, rfl, tno fun e => q (by have := (e.sems k _ hat).2; rw [hpat] at this; injection this with this; exact this.symm), rfl⟩ trivial rfl trivial (fun _ => rfl)
    have q2 : (s.sems[k]).m.limit = p.sems[k] := by simpa using g
    refine ⟨⟨k + 1, by omega, fun i x hi hx => ?_⟩, ?_, by simp only; omega⟩
    · by_cases e : i < k
      · exact hinv i x e hx
      · obtain rfl : i = k := by omega
        rw [hat] at hx
        injection hx with hx
        subst hx
        exact ⟨q1, by rw [hpat, q2]⟩
    · refine weak_mk [0, 1] ?_ ?_ ?_ ?_ ?_ rfl rfl
      · repeat (first | exact trivial | refine ⟨⟨_, rfl, (by first | exact .of rfl | exact .lit rfl | exact .of (by first | ((exact congrArg (fun z => SV.v (Value.int .i64 z)) hw))) | exact .lit (by first | ((exact congrArg (fun z => SV.v (Value.int .i64 z)) hw)))), (by first | exact trivial | exact Nat.le_of_ble_eq_true rfl | exact small1 rfl)⟩, ?_⟩)
      · repeat (first | exact trivial | refine ⟨⟨(by first | exact .head _ | exact .tail _ (.head _) | exact .tail _ (.tail _ (.head _)) | exact .tail _ (.tail _ (.tail _ (.head _))) | exact .tail _ (.tail _ (.tail _ (.tail _ (.head _)))) | exact .tail _ (.tail _ (.tail _ (.tail _ (.tail _ (.head _))))) | exact .tail _ (.tail _ (.tail _ (.tail _ (.tail _ (.tail _ (.head _)))))) | exact .tail _ (.tail _ (.tail _ (.tail _ (.tail _ (.tail _ (.tail _ (.head _))))))) | exact .tail _ (.tail _ (.tail _ (.tail _ (.tail _ (.tail _ (.tail _ (.tail _ (.head _)))))))) | exact .tail _ (.tail _ (.tail _ (.tail _ (.tail _ (.tail _ (.tail _ (.tail _ (.tail _ (.head _)))))))))), Nat.le_of_ble_eq_true rfl⟩, ?_⟩)
      · repeat (first | exact trivial | refine ⟨⟨_, rfl, (by first | exact .of rfl | exact .lit rfl | exact .of (by first | ((exact congrArg (fun z => SV.v (Value.int .i64 z)) hw))) | exact .lit (by first | ((exact congrArg (fun z => SV.v (Value.int .i64 z)) hw)))), (by first | exact trivial | exact Nat.le_of_ble_eq_true rfl | exact small1 rfl)⟩, ?_⟩)
      · repeat (first | exact trivial | refine ⟨⟨_, rfl⟩, ?_⟩)
      · repeat (first | exact trivial | refine ⟨.inl ⟨_, rfl, (by first | rfl | ((exact congrArg (fun z => SV.v (Value.int .i64 z)) hw)))⟩, ?_⟩ | refine ⟨.inr ⟨Nat.le_of_ble_eq_true rfl, rfl, rfl, rfl, rfl⟩, ?_⟩)
  have hge : s.sems.length ≤ k := by simpa using g
  have vsems : ∀ (i : Nat) x, s.pure.sems[i]? = some x → SemOk x ∧ p.pure.sems[i]? = some x.limit := fun i x hx => hinv i x (by have := (List.getElem?_eq_some_iff.1 hx).1; omega) hx
  refine LoopW.mk ⟨{ k : Nat // k ≤ s.groups.length ∧ ∀ (i : Nat) x, i < k → s.pure.groups[i]? = some x → GroupOk x },
    fun k => .mk [(2, .p 0 0), (3, .p 1 0), (128, .v (s.h4.val s.groups.length)), (129, .v (.int .i64 (s.groups.length : Int))), (130, .v (.int .i64 (k.1 : Int)))] 2 0 [(0, 46, 5), (1, 41, 9)] [((0, 0), .v (p.h0.val p.sems.length)), ((0, 1), .v (p.h1.val p.groups.length)), ((0, 2), .v (p.h2.val p.barriers.length)), ((0, 3), .v (p.h3.val p.rooms.length)), ((0, 4), .v (p.h4.val p.threads.length)), ((1, 0), .v (s.h0.val s.places.length)), ((1, 1), .v (s.h1.val s.status.length)), ((1, 2), .v (s.h2.val s.sems.length)), ((1, 3), .v (s.h3.val s.onces.length)), ((1, 4), .v (s.h4.val s.groups.length)), ((1, 5), .v (s.h5.val s.barriers.length)), ((1, 6), .v (s.h6.val s.chans.length)), ((1, 7), .v (s.h7.val s.said.length)), ((1, 8), .v (.int .i64 s.fault))] [fR (progO p), fR (stateO s)],
    fun k => s.groups.length - k.1, ⟨0, Nat.zero_le _, fun i x hi => by omega⟩, ?_, ?_⟩
  · refine weak_mk [0, 1] ?_ ?_ ?_ ?_ ?_ rfl rfl
    · repeat (first | exact trivial | refine ⟨⟨_, rfl, (by first | exact .of rfl | exact .lit rfl | exact .of (by first | (rfl)) | exact .lit (by first | (rfl))), (by first | exact trivial | exact Nat.le_of_ble_eq_true rfl | exact small1 rfl)⟩, ?_⟩)
    · repeat (first | exact trivial | refine ⟨⟨(by first | exact .head _ | exact .tail _ (.head _) | exact .tail _ (.tail _ (.head _)) | exact .tail _ (.tail _ (.tail _ (.head _))) | exact .tail _ (.tail _ (.tail _ (.tail _ (.head _)))) | exact .tail _ (.tail _ (.tail _ (.tail _ (.tail _ (.head _))))) | exact .tail _ (.tail _ (.tail _ (.tail _ (.tail _ (.tail _ (.head _)))))) | exact .tail _ (.tail _ (.tail _ (.tail _ (.tail _ (.tail _ (.tail _ (.head _))))))) | exact .tail _ (.tail _ (.tail _ (.tail _ (.tail _ (.tail _ (.tail _ (.tail _ (.head _)))))))) | exact .tail _ (.tail _ (.tail _ (.tail _ (.tail _ (.tail _ (.tail _ (.tail _ (.tail _ (.head _)))))))))), Nat.le_of_ble_eq_true rfl⟩, ?_⟩)
    · repeat (first | exact trivial | refine ⟨⟨_, rfl, (by first | exact .of rfl | exact .lit rfl | exact .of (by first | (rfl)) | exact .lit (by first | (rfl))), (by first | exact trivial | exact Nat.le_of_ble_eq_true rfl | exact small1 rfl)⟩, ?_⟩)
    · repeat (first | exact trivial | refine ⟨⟨_, rfl⟩, ?_⟩)
    · repeat (first | exact trivial | refine ⟨.inl ⟨_, rfl, (by first | rfl | (rfl))⟩, ?_⟩ | refine ⟨.inr ⟨Nat.le_of_ble_eq_true rfl, rfl, rfl, rfl, rfl⟩, ?_⟩)
  rintro ⟨k, hk, hinv⟩
  refine CaseB.mk (fun g => ?_) (fun g => ?_)
  · have hlt : k < s.groups.length := by simpa using g
    have hw := e_succ k _ hlt (by omega)
    have hat : s.pure.groups[k]? = some (s.groups[k]).m := by simp [StateH.pure, hlt]
    have hsm := (allS_map b4).2 _ (List.getElem_mem hlt)
    unfold Group.small20 at hsm
    refine stop_idx encGroupH tabOk rfl rfl rfl rfl rfl ⟨rfl, rfl⟩ (rdVia 1 rfl (.trans (.R_R (stateO_groups s)) (.ofR nest_h))) k rfl (by first | omega | (simp; done) | (simp; omega) | (unfold maxLen; omega) | (unfold maxLen; simp; done) | (unfold maxLen; simp; omega)) (fun ad => ?_)
    refine stop_call _ cl102 rfl rfl rfl rfl ⟨rfl, rfl⟩ (fun A w hW => groupValid_c _ _ w ⟨hW.get 1 rfl (.trans (.R_R (stateO_groups s)) (.ofR (groupsO_0 _ _ k hlt))), trivial⟩ (by omega)) ?_
    rintro v L ⟨bb, rfl, hbb, rfl⟩
    refine CaseB.mk (fun g => ?_) (fun g => ?_)
    · exact retw [] ⟨_, rfl, tno fun e => (by rw [hbb.2 (e.groups _ (List.mem_of_getElem? hat))] at g; cases g), rfl⟩ trivial rfl trivial (fun _ => rfl)
    have q1 := hbb.1 (by simpa using g)
    refine ⟨⟨k + 1, by omega, fun i x hi hx => ?_⟩, ?_, by simp only; omega⟩
    · by_cases e : i < k
      · exact hinv i x e hx
      · obtain rfl : i = k := by omega
        rw [hat] at hx
        injection hx with hx
        subst hx
        exact q1
    · refine weak_mk [0, 1] ?_ ?_ ?_ ?_ ?_ rfl rfl
      · repeat (first | exact trivial | refine ⟨⟨_, rfl, (by first | exact .of rfl | exact .lit rfl | exact .of (by first | ((exact congrArg (fun z => SV.v (Value.int .i64 z)) hw))) | exact .lit (by first | ((exact congrArg (fun z => SV.v (Value.int .i64 z)) hw)))), (by first | exact trivial | exact Nat.le_of_ble_eq_true rfl | exact small1 rfl)⟩, ?_⟩)
      · repeat (first | exact trivial | refine ⟨⟨(by first | exact .head _ | exact .tail _ (.head _) | exact .tail _ (.tail _ (.head _)) | exact .tail _ (.tail _ (.tail _ (.head _))) | exact .tail _ (.tail _ (.tail _ (.tail _ (.head _)))) | exact .tail _ (.tail _ (.tail _ (.tail _ (.tail _ (.head _))))) | exact .tail _ (.tail _ (.tail _ (.tail _ (.tail _ (.tail _ (.head _)))))) | exact .tail _ (.tail _ (.tail _ (.tail _ (.tail _ (.tail _ (.tail _ (.head _))))))) | exact .tail _ (.tail _ (.tail _ (.tail _ (.tail _ (.tail _ (.tail _ (.tail _ (.head _)))))))) | exact .tail _ (.tail _ (.tail _ (.tail _ (.tail _ (.tail _ (.tail _ (.tail _ (.tail _ (.head _)))))))))), Nat.le_of_ble_eq_true rfl⟩, ?_⟩)
      · repeat (first | exact trivial | refine ⟨⟨_, rfl, (by first | exact .of rfl | exact .lit rfl | exact .of (by first | ((exact congrArg (fun z => SV.v (Value.int .i64 z)) hw))) | exact .lit (by first | ((exact congrArg (fun z => SV.v (Value.int .i64 z)) hw)))), (by first | exact trivial | exact Nat.le_of_ble_eq_true rfl | exact small1 rfl)⟩, ?_⟩)
      · repeat (first | exact trivial | refine ⟨⟨_, rfl⟩, ?_⟩)
      · repeat (first | exact trivial | refine ⟨.inl ⟨_, rfl, (by first | rfl | ((exact congrArg (fun z => SV.v (Value.int .i64 z)) hw)))⟩, ?_⟩ | refine ⟨.inr ⟨Nat.le_of_ble_eq_true rfl, rfl, rfl, rfl, rfl⟩, ?_⟩)
  have hge : s.groups.length ≤ k := by simpa using g
  have vgroups : ∀ (i : Nat) x, s.pure.groups[i]? = some x → GroupOk x := fun i x hx => hinv i x (by have := (List.getElem?_eq_some_iff.1 hx).1; omega) hx
  refine LoopW.mk ⟨{ k : Nat // k ≤ s.barriers.length ∧ ∀ (i : Nat) x, i < k → s.pure.barriers[i]? = some x → BarrierOk x ∧ p.pure.barriers[i]? = some x.parties },
    fun k => .mk [(2, .p 0 0), (3, .p 1 0), (139, .v (s.h5.val s.barriers.length)), (140, .v (.int .i64 (s.barriers.length : Int))), (141, .v (.int .i64 (k.1 : Int)))] 2 0 [(0, 46, 5), (1, 41, 9)] [((0, 0), .v (p.h0.val p.sems.length)), ((0, 1), .v (p.h1.val p.groups.length)), ((0, 2), .v (p.h2.val p.barriers.length)), ((0, 3), .v (p.h3.val p.rooms.length)), ((0, 4), .v (p.h4.val p.threads.length)), ((1, 0), .v (s.h0.val s.places.length)), ((1, 1), .v (s.h1.val s.status.length)), ((1, 2), .v (s.h2.val s.sems.length)), ((1, 3), .v (s.h3.val s.onces.length)), ((1, 4), .v (s.h4.val s.groups.length)), ((1, 5), .v (s.h5.val s.barriers.length)), ((1, 6), .v (s.h6.val s.chans.length)), ((1, 7), .v (s.h7.val s.said.length)), ((1, 8), .v (.int .i64 s.fault))] [fR (progO p), fR (stateO s)],
    fun k => s.barriers.length - k.1, ⟨0, Nat.zero_le _, fun i x hi => by omega⟩, ?_, ?_⟩
  · refine weak_mk [0, 1] ?_ ?_ ?_ ?_ ?_ rfl rfl
    · repeat (first | exact trivial | refine ⟨⟨_, rfl, (by first | exact .of rfl | exact .lit rfl | exact .of (by first | (rfl)) | exact .lit (by first | (rfl))), (by first | exact trivial | exact Nat.le_of_ble_eq_true rfl | exact small1 rfl)⟩, ?_⟩)
    · repeat (first | exact trivial | refine ⟨⟨(by first | exact .head _ | exact .tail _ (.head _) | exact .tail _ (.tail _ (.head _)) | exact .tail _ (.tail _ (.tail _ (.head _))) | exact .tail _ (.tail _ (.tail _ (.tail _ (.head _)))) | exact .tail _ (.tail _ (.tail _ (.tail _ (.tail _ (.head _))))) | exact .tail _ (.tail _ (.tail _ (.tail _ (.tail _ (.tail _ (.head _)))))) | exact .tail _ (.tail _ (.tail _ (.tail _ (.tail _ (.tail _ (.tail _ (.head _))))))) | exact .tail _ (.tail _ (.tail _ (.tail _ (.tail _ (.tail _ (.tail _ (.tail _ (.head _)))))))) | exact .tail _ (.tail _ (.tail _ (.tail _ (.tail _ (.tail _ (.tail _ (.tail _ (.tail _ (.head _)))))))))), Nat.le_of_ble_eq_true rfl⟩, ?_⟩)
    · repeat (first | exact trivial | refine ⟨⟨_, rfl, (by first | exact .of rfl | exact .lit rfl | exact .of (by first | (rfl)) | exact .lit (by first | (rfl))), (by first | exact trivial | exact Nat.le_of_ble_eq_true rfl | exact small1 rfl)⟩, ?_⟩)
    · repeat (first | exact trivial | refine ⟨⟨_, rfl⟩, ?_⟩)
    · repeat (first | exact trivial | refine ⟨.inl ⟨_, rfl, (by first | rfl | (rfl))⟩, ?_⟩ | refine ⟨.inr ⟨Nat.le_of_ble_eq_true rfl, rfl, rfl, rfl, rfl⟩, ?_⟩)
  rintro ⟨k, hk, hinv⟩
  refine CaseB.mk (fun g => ?_) (fun g => ?_)
  · have hlt : k < s.barriers.length := by simpa using g
    have hw := e_succ k _ hlt (by omega)
    have hat : s.pure.barriers[k]? = some (s.barriers[k]).m := by simp [StateH.pure, hlt]
    have hsm := (allS_map b5).2 _ (List.getElem_mem hlt)
    unfold Barrier.small20 at hsm
    refine stop_idx encBarrierH tabOk rfl rfl rfl rfl rfl ⟨rfl, rfl⟩ (rdVia 1 rfl (.trans (.R_R (stateO_barriers s)) (.ofR nest_h))) k rfl (by first | omega | (simp; done) | (simp; omega) | (unfold maxLen; omega) | (unfold maxLen; simp; done) | (unfold maxLen; simp; omega)) (fun ad => ?_)
    refine draw_start tabOk (by kernel_rfl) (by kernel_rfl) (by kernel_rfl) 200 [((0, 2), .v (p.h2.val p.barriers.length)), ((2, 0), .v (.int .i64 (s.barriers[k]).m.parties)), ((2, 1), .v (.int .i64 (s.barriers[k]).m.round)), ((2, 2), .v ((s.barriers[k]).q.val (s.barriers[k]).m.waits.length))] [0] [_] ⟨⟨_, rfl, rfl, (by first | exact trivial | exact Nat.le_of_ble_eq_true rfl)⟩, ⟨_, rfl, rfl, (by first | exact trivial | exact Nat.le_of_ble_eq_true rfl)⟩, ⟨_, rfl, rfl, (by first | exact trivial | exact Nat.le_of_ble_eq_true rfl)⟩, ⟨_, rfl, rfl, (by first | exact trivial | exact Nat.le_of_ble_eq_true rfl)⟩, trivial⟩ ⟨⟨_, rfl⟩, ⟨_, rfl⟩, ⟨_, rfl⟩, ⟨_, rfl⟩, trivial⟩ ⟨rfl, trivial⟩ rfl ?_
    refine d_call _ cl103 rfl rfl rfl rfl ⟨rfl, rfl⟩ (fun A w hW => barrierValid_c _ _ w ⟨hW.get 1 rfl (.trans (.R_R (stateO_barriers s)) (.ofR (barriersO_0 _ _ k hlt))), trivial⟩ (by omega)) ?_
    rintro v L ⟨bb, rfl, hbb, rfl⟩
    refine CaseB.mk (fun g => ?_) (fun g => ?_)
    · exact retw [] ⟨_, rfl, tno fun e => (by rw [hbb.2 ((e.barriers k _ hat).1)] at g; cases g), rfl⟩ trivial rfl trivial (fun _ => rfl)
    have q1 := hbb.1 (by simpa using g)
    have hlp : k < p.barriers.length := by omega
    have hpat : p.pure.barriers[k]? = some p.barriers[k] := by simp [ProgH.pure, hlp]
    refine d_idx (ti := tiOf tab) encInt tabOk rfl rfl rfl rfl rfl ⟨rfl, rfl⟩ (rdVia 0 rfl (.ofR (progO_barriers p))) k rfl (by first | omega | (simp; done) | (simp; omega) | (unfold maxLen; omega) | (unfold maxLen; simp; done) | (unfold maxLen; simp; omega)) (fun ad2 => ?_)
    refine CaseB.mk (fun g => ?_) (fun g => ?_)
    · have q : ¬ (s.barriers[k]).m.parties = p.barriers[k] := by simpa using g
      exact retw [] ⟨_, rfl, tno fun e => q (by have := (e.barriers k _ hat).2; rw [hpat] at this; injection this with this; exact this.symm), rfl⟩ trivial rfl trivial (fun _ => rfl)
    have q2 : (s.barriers[k]).m.parties = p.barriers[k] := by simpa using g
    refine ⟨⟨k + 1, by omega, fun i x hi hx => ?_⟩, ?_, by simp only; omega⟩
    · by_cases e : i < k
      · exact hinv i x e hx
      · obtain rfl : i = k := by omega
        rw [hat] at hx
        injection hx with hx
        subst hx
        exact ⟨q1, by rw [hpat, q2]⟩
    · refine weak_mk [0, 1] ?_ ?_ ?_ ?_ ?_ rfl rfl
      · repeat (first | exact trivial | refine ⟨⟨_, rfl, (by first | exact .of rfl | exact .lit rfl | exact .of (by first | ((exact congrArg (fun z => SV.v (Value.int .i64 z)) hw))) | exact .lit (by first | ((exact congrArg (fun z => SV.v (Value.int .i64 z)) hw)))), (by first | exact trivial | exact Nat.le_of_ble_eq_true rfl | exact small1 rfl)⟩, ?_⟩)
      · repeat (first | exact trivial | refine ⟨⟨(by first | exact .head _ | exact .tail _ (.head _) | exact .tail _ (.tail _ (.head _)) | exact .tail _ (.tail _ (.tail _ (.head _))) | exact .tail _ (.tail _ (.tail _ (.tail _ (.head _)))) | exact .tail _ (.tail _ (.tail _ (.tail _ (.tail _ (.head _))))) | exact .tail _ (.tail _ (.tail _ (.tail _ (.tail _ (.tail _ (.head _)))))) | exact .tail _ (.tail _ (.tail _ (.tail _ (.tail _ (.tail _ (.tail _ (.head _))))))) | exact .tail _ (.tail _ (.tail _ (.tail _ (.tail _ (.tail _ (.tail _ (.tail _ (.head _)))))))) | exact .tail _ (.tail _ (.tail _ (.tail _ (.tail _ (.tail _ (.tail _ (.tail _ (.tail _ (.head _)))))))))), Nat.le_of_ble_eq_true rfl⟩, ?_⟩)
      · repeat (first | exact trivial | refine ⟨⟨_, rfl, (by first | exact .of rfl | exact .lit rfl | exact .of (by first | ((exact congrArg (fun z => SV.v (Value.int .i64 z)) hw))) | exact .lit (by first | ((exact congrArg (fun z => SV.v (Value.int .i64 z)) hw)))), (by first | exact trivial | exact Nat.le_of_ble_eq_true rfl | exact small1 rfl)⟩, ?_⟩)
      · repeat (first | exact trivial | refine ⟨⟨_, rfl⟩, ?_⟩)
      · repeat (first | exact trivial | refine ⟨.inl ⟨_, rfl, (by first | rfl | ((exact congrArg (fun z => SV.v (Value.int .i64 z)) hw)))⟩, ?_⟩ | refine ⟨.inr ⟨Nat.le_of_ble_eq_true rfl, rfl, rfl, rfl, rfl⟩, ?_⟩)
  have hge : s.barriers.length ≤ k := by simpa using g
  have vbarriers : ∀ (i : Nat) x, s.pure.barriers[i]? = some x → BarrierOk x ∧ p.pure.barriers[i]? = some x.parties := fun i x hx => hinv i x (by have := (List.getElem?_eq_some_iff.1 hx).1; omega) hx
  refine LoopW.mk ⟨{ k : Nat // k ≤ s.chans.length ∧ ∀ (i : Nat) x, i < k → s.pure.chans[i]? = some x → x.valid = true ∧ p.pure.rooms[i]? = some x.room },
    fun k => .mk [(2, .p 0 0), (3, .p 1 0), (161, .v (s.h6.val s.chans.length)), (162, .v (.int .i64 (s.chans.length : Int))), (163, .v (.int .i64 (k.1 : Int)))] 2 0 [(0, 46, 5), (1, 41, 9)] [((0, 0), .v (p.h0.val p.sems.length)), ((0, 1), .v (p.h1.val p.groups.length)), ((0, 2), .v (p.h2.val p.barriers.length)), ((0, 3), .v (p.h3.val p.rooms.length)), ((0, 4), .v (p.h4.val p.threads.length)), ((1, 0), .v (s.h0.val s.places.length)), ((1, 1), .v (s.h1.val s.status.length)), ((1, 2), .v (s.h2.val s.sems.length)), ((1, 3), .v (s.h3.val s.onces.length)), ((1, 4), .v (s.h4.val s.groups.length)), ((1, 5), .v (s.h5.val s.barriers.length)), ((1, 6), .v (s.h6.val s.chans.length)), ((1, 7), .v (s.h7.val s.said.length)), ((1, 8), .v (.int .i64 s.fault))] [fR (progO p), fR (stateO s)],
    fun k => s.chans.length - k.1, ⟨0, Nat.zero_le _, fun i x hi => by omega⟩, ?_, ?_⟩
  · refine weak_mk [0, 1] ?_ ?_ ?_ ?_ ?_ rfl rfl
    · repeat (first | exact trivial | refine ⟨⟨_, rfl, (by first | exact .of rfl | exact .lit rfl | exact .of (by first | (rfl)) | exact .lit (by first | (rfl))), (by first | exact trivial | exact Nat.le_of_ble_eq_true rfl | exact small1 rfl)⟩, ?_⟩)
    · repeat (first | exact trivial | refine ⟨⟨(by first | exact .head _ | exact .tail _ (.head _) | exact .tail _ (.tail _ (.head _)) | exact .tail _ (.tail _ (.tail _ (.head _))) | exact .tail _ (.tail _ (.tail _ (.tail _ (.head _)))) | exact .tail _ (.tail _ (.tail _ (.tail _ (.tail _ (.head _))))) | exact .tail _ (.tail _ (.tail _ (.tail _ (.tail _ (.tail _ (.head _)))))) | exact .tail _ (.tail _ (.tail _ (.tail _ (.tail _ (.tail _ (.tail _ (.head _))))))) | exact .tail _ (.tail _ (.tail _ (.tail _ (.tail _ (.tail _ (.tail _ (.tail _ (.head _)))))))) | exact .tail _ (.tail _ (.tail _ (.tail _ (.tail _ (.tail _ (.tail _ (.tail _ (.tail _ (.head _)))))))))), Nat.le_of_ble_eq_true rfl⟩, ?_⟩)
    · repeat (first | exact trivial | refine ⟨⟨_, rfl, (by first | exact .of rfl | exact .lit rfl | exact .of (by first | (rfl)) | exact .lit (by first | (rfl))), (by first | exact trivial | exact Nat.le_of_ble_eq_true rfl | exact small1 rfl)⟩, ?_⟩)
    · repeat (first | exact trivial | refine ⟨⟨_, rfl⟩, ?_⟩)
    · repeat (first | exact trivial | refine ⟨.inl ⟨_, rfl, (by first | rfl | (rfl))⟩, ?_⟩ | refine ⟨.inr ⟨Nat.le_of_ble_eq_true rfl, rfl, rfl, rfl, rfl⟩, ?_⟩)
  rintro ⟨k, hk, hinv⟩
  refine CaseB.mk (fun g => ?_) (fun g => ?_)
  · have hlt : k < s.chans.length := by simpa using g
    have hw := e_succ k _ hlt (by omega)
    have hat : s.pure.chans[k]? = some (s.chans[k]).m := by simp [StateH.pure, hlt]
    have hsm := (allS_map b6).2 _ (List.getElem_mem hlt)
    unfold Chan.small20 at hsm
    refine stop_idx encChanH tabOk rfl rfl rfl rfl rfl ⟨rfl, rfl⟩ (rdVia 1 rfl (.trans (.R_R (stateO_chans s)) (.ofR nest_h))) k rfl (by first | omega | (simp; done) | (simp; omega) | (unfold maxLen; omega) | (unfold maxLen; simp; done) | (unfold maxLen; simp; omega)) (fun ad => ?_)
    refine draw_start tabOk (by kernel_rfl) (by kernel_rfl) (by kernel_rfl) 200 [((0, 3), .v (p.h3.val p.rooms.length)), ((2, 0), .v (.int .i64 (s.chans[k]).m.room)), ((2, 1), .v ((s.chans[k]).q0.val (s.chans[k]).m.items.length)), ((2, 2), .v ((s.chans[k]).q1.val (s.chans[k]).m.senders.length)), ((2, 3), .v ((s.chans[k]).q2.val (s.chans[k]).m.getters.length)), ((2, 4), .v (.bool (s.chans[k]).m.closed))] [0] [_] ⟨⟨_, rfl, rfl, (by first | exact trivial | exact Nat.le_of_ble_eq_true rfl)⟩, ⟨_, rfl, rfl, (by first | exact trivial | exact Nat.le_of_ble_eq_true rfl)⟩, ⟨_, rfl, rfl, (by first | exact trivial | exact Nat.le_of_ble_eq_true rfl)⟩, ⟨_, rfl, rfl, (by first | exact trivial | exact Nat.le_of_ble_eq_true rfl)⟩, ⟨_, rfl, rfl, (by first | exact trivial | exact Nat.le_of_ble_eq_true rfl)⟩, ⟨_, rfl, rfl, (by first | exact trivial | exact Nat.le_of_ble_eq_true rfl)⟩, trivial⟩ ⟨⟨_, rfl⟩, ⟨_, rfl⟩, ⟨_, rfl⟩, ⟨_, rfl⟩, ⟨_, rfl⟩, ⟨_, rfl⟩, trivial⟩ ⟨rfl, trivial⟩ rfl ?_
    refine d_call _ cl104 rfl rfl rfl rfl ⟨rfl, rfl⟩ (fun A w hW => valid_c _ _ _ _ w ⟨hW.get 1 rfl (.trans (.R_R (stateO_chans s)) (.ofR (chansO_0 _ _ k hlt))), hW.get 1 rfl (.trans (.R_R (stateO_chans s)) (.ofR (chansO_1 _ _ k hlt))), hW.get 1 rfl (.trans (.R_R (stateO_chans s)) (.ofR (chansO_2 _ _ k hlt))), trivial⟩ ⟨by omega, by omega, by omega⟩) ?_
    rintro v L ⟨rfl, rfl⟩
    refine CaseB.mk (fun g => ?_) (fun g => ?_)
    · exact retw [] ⟨_, rfl, tno fun e => (by rw [(e.chans k _ hat).1] at g; cases g), rfl⟩ trivial rfl trivial (fun _ => rfl)
    have q1 : (s.chans[k]).m.valid = true := by simpa using g
    have hlp : k < p.rooms.length := by omega
    have hpat : p.pure.rooms[k]? = some p.rooms[k] := by simp [ProgH.pure, hlp]
    refine d_idx (ti := tiOf tab) encInt tabOk rfl rfl rfl rfl rfl ⟨rfl, rfl⟩ (rdVia 0 rfl (.ofR (progO_rooms p))) k rfl (by first | omega | (simp; done) | (simp; omega) | (unfold maxLen; omega) | (unfold maxLen; simp; done) | (unfold maxLen; simp; omega)) (fun ad2 => ?_)
    refine CaseB.mk (fun g => ?_) (fun g => ?_)
    · have q : ¬ (s.chans[k]).m.room = p.rooms[k] := by simpa using g
      exact retw [] ⟨_, rfl, tno fun e => q (by have := (e.chans k _ hat).2; rw [hpat] at this; injection this with this; exact this.symm), rfl⟩ trivial rfl trivial (fun _ => rfl)
    have q2 : (s.chans[k]).m.room = p.rooms[k] := by simpa using g
    refine ⟨⟨k + 1, by omega, fun i x hi hx => ?_⟩, ?_, by simp only; omega⟩
    · by_cases e : i < k
      · exact hinv i x e hx
      · obtain rfl : i = k := by omega
        rw [hat] at hx
        injection hx with hx
        subst hx
        exact ⟨q1, by rw [hpat, q2]⟩
    · refine weak_mk [0, 1] ?_ ?_ ?_ ?_ ?_ rfl rfl
      · repeat (first | exact trivial | refine ⟨⟨_, rfl, (by first | exact .of rfl | exact .lit rfl | exact .of (by first | ((exact congrArg (fun z => SV.v (Value.int .i64 z)) hw))) | exact .lit (by first | ((exact congrArg (fun z => SV.v (Value.int .i64 z)) hw)))), (by first | exact trivial | exact Nat.le_of_ble_eq_true rfl | exact small1 rfl)⟩, ?_⟩)
      · repeat (first | exact trivial | refine ⟨⟨(by first | exact .head _ | exact .tail _ (.head _) | exact .tail _ (.tail _ (.head _)) | exact .tail _ (.tail _ (.tail _ (.head _))) | exact .tail _ (.tail _ (.tail _ (.tail _ (.head _)))) | exact .tail _ (.tail _ (.tail _ (.tail _ (.tail _ (.head _))))) | exact .tail _ (.tail _ (.tail _ (.tail _ (.tail _ (.tail _ (.head _)))))) | exact .tail _ (.tail _ (.tail _ (.tail _ (.tail _ (.tail _ (.tail _ (.head _))))))) | exact .tail _ (.tail _ (.tail _ (.tail _ (.tail _ (.tail _ (.tail _ (.tail _ (.head _)))))))) | exact .tail _ (.tail _ (.tail _ (.tail _ (.tail _ (.tail _ (.tail _ (.tail _ (.tail _ (.head _)))))))))), Nat.le_of_ble_eq_true rfl⟩, ?_⟩)
      · repeat (first | exact trivial | refine ⟨⟨_, rfl, (by first | exact .of rfl | exact .lit rfl | exact .of (by first | ((exact congrArg (fun z => SV.v (Value.int .i64 z)) hw))) | exact .lit (by first | ((exact congrArg (fun z => SV.v (Value.int .i64 z)) hw)))), (by first | exact trivial | exact Nat.le_of_ble_eq_true rfl | exact small1 rfl)⟩, ?_⟩)
      · repeat (first | exact trivial | refine ⟨⟨_, rfl⟩, ?_⟩)
      · repeat (first | exact trivial | refine ⟨.inl ⟨_, rfl, (by first | rfl | ((exact congrArg (fun z => SV.v (Value.int .i64 z)) hw)))⟩, ?_⟩ | refine ⟨.inr ⟨Nat.le_of_ble_eq_true rfl, rfl, rfl, rfl, rfl⟩, ?_⟩)
  have hge : s.chans.length ≤ k := by simpa using g
  have vchans : ∀ (i : Nat) x, s.pure.chans[i]? = some x → x.valid = true ∧ p.pure.rooms[i]? = some x.room := fun i x hx => hinv i x (by have := (List.getElem?_eq_some_iff.1 hx).1; omega) hx
  refine LoopW.mk ⟨{ k : Nat // k ≤ s.onces.length ∧ ∀ (i : Nat) x, i < k → s.pure.onces[i]? = some x → OnceOk x },
    fun k => .mk [(2, .p 0 0), (3, .p 1 0), (183, .v (s.h3.val s.onces.length)), (184, .v (.int .i64 (s.onces.length : Int))), (185, .v (.int .i64 (k.1 : Int)))] 2 0 [(0, 46, 5), (1, 41, 9)] [((0, 0), .v (p.h0.val p.sems.length)), ((0, 1), .v (p.h1.val p.groups.length)), ((0, 2), .v (p.h2.val p.barriers.length)), ((0, 3), .v (p.h3.val p.rooms.length)), ((0, 4), .v (p.h4.val p.threads.length)), ((1, 0), .v (s.h0.val s.places.length)), ((1, 1), .v (s.h1.val s.status.length)), ((1, 2), .v (s.h2.val s.sems.length)), ((1, 3), .v (s.h3.val s.onces.length)), ((1, 4), .v (s.h4.val s.groups.length)), ((1, 5), .v (s.h5.val s.barriers.length)), ((1, 6), .v (s.h6.val s.chans.length)), ((1, 7), .v (s.h7.val s.said.length)), ((1, 8), .v (.int .i64 s.fault))] [fR (progO p), fR (stateO s)],
    fun k => s.onces.length - k.1, ⟨0, Nat.zero_le _, fun i x hi => by omega⟩, ?_, ?_⟩
  · refine weak_mk [0, 1] ?_ ?_ ?_ ?_ ?_ rfl rfl
    · repeat (first | exact trivial | refine ⟨⟨_, rfl, (by first | exact .of rfl | exact .lit rfl | exact .of (by first | (rfl)) | exact .lit (by first | (rfl))), (by first | exact trivial | exact Nat.le_of_ble_eq_true rfl | exact small1 rfl)⟩, ?_⟩)
    · repeat (first | exact trivial | refine ⟨⟨(by first | exact .head _ | exact .tail _ (.head _) | exact .tail _ (.tail _ (.head _)) | exact .tail _ (.tail _ (.tail _ (.head _))) | exact .tail _ (.tail _ (.tail _ (.tail _ (.head _)))) | exact .tail _ (.tail _ (.tail _ (.tail _ (.tail _ (.head _))))) | exact .tail _ (.tail _ (.tail _ (.tail _ (.tail _ (.tail _ (.head _)))))) | exact .tail _ (.tail _ (.tail _ (.tail _ (.tail _ (.tail _ (.tail _ (.head _))))))) | exact .tail _ (.tail _ (.tail _ (.tail _ (.tail _ (.tail _ (.tail _ (.tail _ (.head _)))))))) | exact .tail _ (.tail _ (.tail _ (.tail _ (.tail _ (.tail _ (.tail _ (.tail _ (.tail _ (.head _)))))))))), Nat.le_of_ble_eq_true rfl⟩, ?_⟩)
    · repeat (first | exact trivial | refine ⟨⟨_, rfl, (by first | exact .of rfl | exact .lit rfl | exact .of (by first | (rfl)) | exact .lit (by first | (rfl))), (by first | exact trivial | exact Nat.le_of_ble_eq_true rfl | exact small1 rfl)⟩, ?_⟩)
    · repeat (first | exact trivial | refine ⟨⟨_, rfl⟩, ?_⟩)
    · repeat (first | exact trivial | refine ⟨.inl ⟨_, rfl, (by first | rfl | (rfl))⟩, ?_⟩ | refine ⟨.inr ⟨Nat.le_of_ble_eq_true rfl, rfl, rfl, rfl, rfl⟩, ?_⟩)
  rintro ⟨k, hk, hinv⟩
  refine CaseB.mk (fun g => ?_) (fun g => ?_)
  · have hlt : k < s.onces.length := by simpa using g
    have hw := e_succ k _ hlt (by omega)
    have hat : s.pure.onces[k]? = some (s.onces[k]).m := by simp [StateH.pure, hlt]
    have hsm := (allS_map b3).2 _ (List.getElem_mem hlt)
    unfold Once.small20 at hsm
    refine stop_idx encOnceH tabOk rfl rfl rfl rfl rfl ⟨rfl, rfl⟩ (rdVia 1 rfl (.trans (.R_R (stateO_onces s)) (.ofR nest_h))) k rfl (by first | omega | (simp; done) | (simp; omega) | (unfold maxLen; omega) | (unfold maxLen; simp; done) | (unfold maxLen; simp; omega)) (fun ad => ?_)
    refine stop_call _ cl105 rfl rfl rfl rfl ⟨rfl, rfl⟩ (fun A w hW => onceValid_c _ _ w ⟨hW.get 1 rfl (.trans (.R_R (stateO_onces s)) (.ofR (oncesO_0 _ _ k hlt))), trivial⟩ (by omega)) ?_
    rintro v L ⟨bb, rfl, hbb, rfl⟩
    refine CaseB.mk (fun g => ?_) (fun g => ?_)
    · exact retw [] ⟨_, rfl, tno fun e => (by rw [hbb.2 (e.onces _ (List.mem_of_getElem? hat))] at g; cases g), rfl⟩ trivial rfl trivial (fun _ => rfl)
    have q1 := hbb.1 (by simpa using g)
    refine ⟨⟨k + 1, by omega, fun i x hi hx => ?_⟩, ?_, by simp only; omega⟩
    · by_cases e : i < k
      · exact hinv i x e hx
      · obtain rfl : i = k := by omega
        rw [hat] at hx
        injection hx with hx
        subst hx
        exact q1
    · refine weak_mk [0, 1] ?_ ?_ ?_ ?_ ?_ rfl rfl
      · repeat (first | exact trivial | refine ⟨⟨_, rfl, (by first | exact .of rfl | exact .lit rfl | exact .of (by first | ((exact congrArg (fun z => SV.v (Value.int .i64 z)) hw))) | exact .lit (by first | ((exact congrArg (fun z => SV.v (Value.int .i64 z)) hw)))), (by first | exact trivial | exact Nat.le_of_ble_eq_true rfl | exact small1 rfl)⟩, ?_⟩)
      · repeat (first | exact trivial | refine ⟨⟨(by first | exact .head _ | exact .tail _ (.head _) | exact .tail _ (.tail _ (.head _)) | exact .tail _ (.tail _ (.tail _ (.head _))) | exact .tail _ (.tail _ (.tail _ (.tail _ (.head _)))) | exact .tail _ (.tail _ (.tail _ (.tail _ (.tail _ (.head _))))) | exact .tail _ (.tail _ (.tail _ (.tail _ (.tail _ (.tail _ (.head _)))))) | exact .tail _ (.tail _ (.tail _ (.tail _ (.tail _ (.tail _ (.tail _ (.head _))))))) | exact .tail _ (.tail _ (.tail _ (.tail _ (.tail _ (.tail _ (.tail _ (.tail _ (.head _)))))))) | exact .tail _ (.tail _ (.tail _ (.tail _ (.tail _ (.tail _ (.tail _ (.tail _ (.tail _ (.head _)))))))))), Nat.le_of_ble_eq_true rfl⟩, ?_⟩)
      · repeat (first | exact trivial | refine ⟨⟨_, rfl, (by first | exact .of rfl | exact .lit rfl | exact .of (by first | ((exact congrArg (fun z => SV.v (Value.int .i64 z)) hw))) | exact .lit (by first | ((exact congrArg (fun z => SV.v (Value.int .i64 z)) hw)))), (by first | exact trivial | exact Nat.le_of_ble_eq_true rfl | exact small1 rfl)⟩, ?_⟩)
      · repeat (first | exact trivial | refine ⟨⟨_, rfl⟩, ?_⟩)
      · repeat (first | exact trivial | refine ⟨.inl ⟨_, rfl, (by first | rfl | ((exact congrArg (fun z => SV.v (Value.int .i64 z)) hw)))⟩, ?_⟩ | refine ⟨.inr ⟨Nat.le_of_ble_eq_true rfl, rfl, rfl, rfl, rfl⟩, ?_⟩)
  have hge : s.onces.length ≤ k := by simpa using g
  have vonces : ∀ (i : Nat) x, s.pure.onces[i]? = some x → OnceOk x := fun i x hx => hinv i x (by have := (List.getElem?_eq_some_iff.1 hx).1; omega) hx
  refine LoopW.mk ⟨{ k : Nat // k ≤ s.said.length ∧ ∀ x ∈ s.said.take k, isValue x = true },
    fun k => .mk [(2, .p 0 0), (3, .p 1 0), (194, .v (s.h7.val s.said.length)), (195, .v (.int .i64 (s.said.length : Int))), (196, .v (.int .i64 (k.1 : Int)))] 2 0 [(0, 46, 5), (1, 41, 9)] [((0, 0), .v (p.h0.val p.sems.length)), ((0, 1), .v (p.h1.val p.groups.length)), ((0, 2), .v (p.h2.val p.barriers.length)), ((0, 3), .v (p.h3.val p.rooms.length)), ((0, 4), .v (p.h4.val p.threads.length)), ((1, 0), .v (s.h0.val s.places.length)), ((1, 1), .v (s.h1.val s.status.length)), ((1, 2), .v (s.h2.val s.sems.length)), ((1, 3), .v (s.h3.val s.onces.length)), ((1, 4), .v (s.h4.val s.groups.length)), ((1, 5), .v (s.h5.val s.barriers.length)), ((1, 6), .v (s.h6.val s.chans.length)), ((1, 7), .v (s.h7.val s.said.length)), ((1, 8), .v (.int .i64 s.fault))] [fR (progO p), fR (stateO s)],
    fun k => s.said.length - k.1, ⟨0, Nat.zero_le _, by simp⟩, ?_, ?_⟩
  · refine weak_mk [0, 1] ?_ ?_ ?_ ?_ ?_ rfl rfl
    · repeat (first | exact trivial | refine ⟨⟨_, rfl, (by first | exact .of rfl | exact .lit rfl | exact .of (by first | (rfl)) | exact .lit (by first | (rfl))), (by first | exact trivial | exact Nat.le_of_ble_eq_true rfl | exact small1 rfl)⟩, ?_⟩)
    · repeat (first | exact trivial | refine ⟨⟨(by first | exact .head _ | exact .tail _ (.head _) | exact .tail _ (.tail _ (.head _)) | exact .tail _ (.tail _ (.tail _ (.head _))) | exact .tail _ (.tail _ (.tail _ (.tail _ (.head _)))) | exact .tail _ (.tail _ (.tail _ (.tail _ (.tail _ (.head _))))) | exact .tail _ (.tail _ (.tail _ (.tail _ (.tail _ (.tail _ (.head _)))))) | exact .tail _ (.tail _ (.tail _ (.tail _ (.tail _ (.tail _ (.tail _ (.head _))))))) | exact .tail _ (.tail _ (.tail _ (.tail _ (.tail _ (.tail _ (.tail _ (.tail _ (.head _)))))))) | exact .tail _ (.tail _ (.tail _ (.tail _ (.tail _ (.tail _ (.tail _ (.tail _ (.tail _ (.head _)))))))))), Nat.le_of_ble_eq_true rfl⟩, ?_⟩)
    · repeat (first | exact trivial | refine ⟨⟨_, rfl, (by first | exact .of rfl | exact .lit rfl | exact .of (by first | (rfl)) | exact .lit (by first | (rfl))), (by first | exact trivial | exact Nat.le_of_ble_eq_true rfl | exact small1 rfl)⟩, ?_⟩)
    · repeat (first | exact trivial | refine ⟨⟨_, rfl⟩, ?_⟩)
    · repeat (first | exact trivial | refine ⟨.inl ⟨_, rfl, (by first | rfl | (rfl))⟩, ?_⟩ | refine ⟨.inr ⟨Nat.le_of_ble_eq_true rfl, rfl, rfl, rfl, rfl⟩, ?_⟩)
  rintro ⟨k, hk, hinv⟩
  refine CaseB.mk (fun g => ?_) (fun g => ?_)
  · have hlt : k < s.said.length := by simpa using g
    have hw := e_succ k _ hlt (by omega)
    refine stop_idx encInt tabOk rfl rfl rfl rfl rfl ⟨rfl, rfl⟩ (rdVia 1 rfl (.ofR (stateO_said s))) k rfl (by first | omega | (simp; done) | (simp; omega) | (unfold maxLen; omega) | (unfold maxLen; simp; done) | (unfold maxLen; simp; omega)) (fun ad => ?_)
    refine stop_call _ cl106 rfl rfl rfl rfl ⟨rfl, rfl⟩ (fun A w hW => isValue_c _ w) ?_
    rintro v L ⟨rfl, rfl⟩
    refine CaseB.mk (fun g => ?_) (fun g => ?_)
    · exact retw [] ⟨_, rfl, tno fun e => (by rw [e.said _ (List.getElem_mem (l := s.said) hlt)] at g; cases g), rfl⟩ trivial rfl trivial (fun _ => rfl)
    refine ⟨⟨k + 1, by omega, fun x hx => ?_⟩, ?_, by simp only; omega⟩
    · rw [List.take_succ_eq_append_getElem hlt] at hx
      rcases List.mem_append.1 hx with hx | hx
      · exact hinv x hx
      · simp at hx; subst hx; simpa using g
    · refine weak_mk [0, 1] ?_ ?_ ?_ ?_ ?_ rfl rfl
      · repeat (first | exact trivial | refine ⟨⟨_, rfl, (by first | exact .of rfl | exact .lit rfl | exact .of (by first | ((exact congrArg (fun z => SV.v (Value.int .i64 z)) hw))) | exact .lit (by first | ((exact congrArg (fun z => SV.v (Value.int .i64 z)) hw)))), (by first | exact trivial | exact Nat.le_of_ble_eq_true rfl | exact small1 rfl)⟩, ?_⟩)
      · repeat (first | exact trivial | refine ⟨⟨(by first | exact .head _ | exact .tail _ (.head _) | exact .tail _ (.tail _ (.head _)) | exact .tail _ (.tail _ (.tail _ (.head _))) | exact .tail _ (.tail _ (.tail _ (.tail _ (.head _)))) | exact .tail _ (.tail _ (.tail _ (.tail _ (.tail _ (.head _))))) | exact .tail _ (.tail _ (.tail _ (.tail _ (.tail _ (.tail _ (.head _)))))) | exact .tail _ (.tail _ (.tail _ (.tail _ (.tail _ (.tail _ (.tail _ (.head _))))))) | exact .tail _ (.tail _ (.tail _ (.tail _ (.tail _ (.tail _ (.tail _ (.tail _ (.head _)))))))) | exact .tail _ (.tail _ (.tail _ (.tail _ (.tail _ (.tail _ (.tail _ (.tail _ (.tail _ (.head _)))))))))), Nat.le_of_ble_eq_true rfl⟩, ?_⟩)
      · repeat (first | exact trivial | refine ⟨⟨_, rfl, (by first | exact .of rfl | exact .lit rfl | exact .of (by first | ((exact congrArg (fun z => SV.v (Value.int .i64 z)) hw))) | exact .lit (by first | ((exact congrArg (fun z => SV.v (Value.int .i64 z)) hw)))), (by first | exact trivial | exact Nat.le_of_ble_eq_true rfl | exact small1 rfl)⟩, ?_⟩)
      · repeat (first | exact trivial | refine ⟨⟨_, rfl⟩, ?_⟩)
      · repeat (first | exact trivial | refine ⟨.inl ⟨_, rfl, (by first | rfl | ((exact congrArg (fun z => SV.v (Value.int .i64 z)) hw)))⟩, ?_⟩ | refine ⟨.inr ⟨Nat.le_of_ble_eq_true rfl, rfl, rfl, rfl, rfl⟩, ?_⟩)
  have hge : s.said.length ≤ k := by simpa using g
  have vsaid : ∀ x ∈ s.said, isValue x = true := by rw [List.take_of_length_le hge] at hinv; exact hinv
  have hN : (events s.pure).length ≤ 1048576 := by
    have ge : ∀ {α : Type} {xs : List α} {Q : α → Prop}, (∀ (i : Nat) x, xs[i]? = some x → Q x) → ∀ x ∈ xs, Q x := fun h x hx => by
      obtain ⟨i, hi⟩ := List.getElem?_of_mem hx
      exact h i x hi
    have e1 := evL_len (f := evSem) (C := 6) (i := 0) (xs := s.pure.sems) fun i x hx => by
      have := (ge (Q := SemOk) (fun i x h => (vsems i x h).1) x hx).q6; simpa [evSem] using this
    have e2 := evL_len (f := evOnce) (C := 6) (i := 0) (xs := s.pure.onces) fun i x hx => by
      have := onceOk_len (ge vonces x hx); simpa [evOnce] using this
    have e3 := evL_len (f := evGroup) (C := 6) (i := 0) (xs := s.pure.groups) fun i x hx => by
      have := groupOk_len (ge vgroups x hx); simpa [evGroup] using this
    have e4 := evL_len (f := evBarrier) (C := 6) (i := 0) (xs := s.pure.barriers) fun i x hx => by
      have := barrierOk_len (ge (Q := BarrierOk) (fun i x h => (vbarriers i x h).1) x hx); simpa [evBarrier] using this
    have e5 := evL_len (f := evChan) (C := 6) (i := 0) (xs := s.pure.chans) fun i x hx => by
      have := chanOk_len (ge (Q := fun x => x.valid = true) (fun i x h => (vchans i x h).1) x hx); simpa [evChan] using this
    simp only [events, List.length_append]
    omega
  refine stop_call _ cl107 rfl rfl rfl rfl ⟨rfl, rfl⟩ (fun A w hW => waitingsOf_c s w ⟨hW.get 1 rfl (.refl _), trivial⟩ hN ⟨by omega, by omega, by omega, by omega, by omega⟩) ?_
  rintro v L ⟨r, r2, ps, os, rfl, hps, hos, rfl⟩
  have kps : keyed ps := keyed_pm.1 (by rw [hps]; exact mapOf_keyed _)
  have kos : keyed os := keyed_pm.1 (by rw [hos]; exact mapOf_keyed _)
  refine LoopW.mk ⟨{ q : Nat × List (Int × LH Waiting) × List (Int × LH Int) // q.1 ≤ p.threads.length ∧ Left ps q.2.1 q.1 ∧ Left os q.2.2 q.1 ∧ ∀ (t : Nat) ops at_ st, t < q.1 → p.pure.threads[t]? = some ops → s.pure.places[t]? = some at_ → s.pure.status[t]? = some st → ThreadOk ops at_ st (ofKey (events s.pure) t) (ofKey (owners s.pure) t) },
    fun q => .mk [(2, .p 0 0), (3, .p 1 0), (18, .v (.map (some r))), (19, .v (.map (some r2))), (210, .v (p.h4.val p.threads.length)), (211, .v (.int .i64 (p.threads.length : Int))), (212, .v (.int .i64 (q.1.1 : Int)))] 2 0 [(0, 46, 5), (1, 41, 9)] [((0, 0), .v (p.h0.val p.sems.length)), ((0, 1), .v (p.h1.val p.groups.length)), ((0, 2), .v (p.h2.val p.barriers.length)), ((0, 3), .v (p.h3.val p.rooms.length)), ((0, 4), .v (p.h4.val p.threads.length)), ((1, 0), .v (s.h0.val s.places.length)), ((1, 1), .v (s.h1.val s.status.length)), ((1, 2), .v (s.h2.val s.sems.length)), ((1, 3), .v (s.h3.val s.onces.length)), ((1, 4), .v (s.h4.val s.groups.length)), ((1, 5), .v (s.h5.val s.barriers.length)), ((1, 6), .v (s.h6.val s.chans.length)), ((1, 7), .v (s.h7.val s.said.length)), ((1, 8), .v (.int .i64 s.fault))] [fMW r q.1.2.1, fMap r2 venH q.1.2.2, fO (rW ps), fO (rI os), fR (progO p), fR (stateO s)],
    fun q => p.threads.length - q.1.1, ⟨(0, ps, os), Nat.zero_le _, Left.start kps, Left.start kos, fun t _ _ _ ht => by simp only at ht; omega⟩, ?_, ?_⟩
  · refine weak_mk [0, 2, 1, 3, 4, 5] ?_ ?_ ?_ ?_ ?_ rfl rfl
    · repeat (first | exact trivial | refine ⟨⟨_, rfl, (by first | exact .of rfl | exact .lit rfl | exact .of (by first | (rfl)) | exact .lit (by first | (rfl))), (by first | exact trivial | exact Nat.le_of_ble_eq_true rfl | exact small1 rfl)⟩, ?_⟩)
    · repeat (first | exact trivial | refine ⟨⟨(by first | exact .head _ | exact .tail _ (.head _) | exact .tail _ (.tail _ (.head _)) | exact .tail _ (.tail _ (.tail _ (.head _))) | exact .tail _ (.tail _ (.tail _ (.tail _ (.head _)))) | exact .tail _ (.tail _ (.tail _ (.tail _ (.tail _ (.head _))))) | exact .tail _ (.tail _ (.tail _ (.tail _ (.tail _ (.tail _ (.head _)))))) | exact .tail _ (.tail _ (.tail _ (.tail _ (.tail _ (.tail _ (.tail _ (.head _))))))) | exact .tail _ (.tail _ (.tail _ (.tail _ (.tail _ (.tail _ (.tail _ (.tail _ (.head _)))))))) | exact .tail _ (.tail _ (.tail _ (.tail _ (.tail _ (.tail _ (.tail _ (.tail _ (.tail _ (.head _)))))))))), Nat.le_of_ble_eq_true rfl⟩, ?_⟩)
    · repeat (first | exact trivial | refine ⟨⟨_, rfl, (by first | exact .of rfl | exact .lit rfl | exact .of (by first | (rfl)) | exact .lit (by first | (rfl))), (by first | exact trivial | exact Nat.le_of_ble_eq_true rfl | exact small1 rfl)⟩, ?_⟩)
    · repeat (first | exact trivial | refine ⟨⟨_, rfl⟩, ?_⟩)
    · repeat (first | exact trivial | refine ⟨.inl ⟨_, rfl, (by first | rfl | (rfl))⟩, ?_⟩ | refine ⟨.inr ⟨Nat.le_of_ble_eq_true rfl, rfl, rfl, rfl, rfl⟩, ?_⟩)
  rintro ⟨⟨k, qs, ts⟩, hk, lq, lo, hinv⟩
  simp only at hk lq lo hinv
  refine CaseB.mk (fun g => ?_) (fun g => ?_)
  rotate_left
  · have hge : k = p.threads.length := by have g' : ¬ (k : Int) < p.threads.length := by simpa using g
                                          omega
    subst hge
    have dq := lq.done hps
    have dn := lo.done hos
    have fin : (∀ e ∈ events s.pure, 0 ≤ e.1 ∧ e.1 < p.threads.length) → (∀ e ∈ owners s.pure, 0 ≤ e.1 ∧ e.1 < p.threads.length) → Fits p.pure s.pure := fun h1 h2 =>
      ⟨ok, by rw [lt]; exact c0, by rw [lt]; exact c1, by rw [l2]; exact c2, by rw [l4]; exact c4, by rw [l5]; exact c5, by rw [l6]; exact c6, by rw [l3]; exact c3, c7, c8, c9, vsems, fun x hx => by obtain ⟨i, hi⟩ := List.getElem?_of_mem hx; exact vgroups i x hi, vbarriers, vchans, fun x hx => by obtain ⟨i, hi⟩ := List.getElem?_of_mem hx; exact vonces i x hi, vsaid,
        fun t ops a st ht => hinv t ops a st (by have := (List.getElem?_eq_some_iff.1 ht).1; rw [lt] at this; exact this) ht, by rw [lt]; exact h1, by rw [lt]; exact h2⟩
    refine stop_lenM 0 (kt := 3) (et := 151) rfl rfl rfl rfl rfl rfl ⟨rfl, rfl⟩ (by kernel_rfl) ?_
    refine CaseB.mk (fun g => ?_) (fun g => ?_)
    · have q0 : qs = [] := by simpa using g
      refine stop_lenM 1 (kt := 3) (et := 22) rfl rfl rfl rfl rfl rfl ⟨rfl, rfl⟩ (by kernel_rfl) ?_
      refine retw [] ⟨_, rfl, ?_, rfl⟩ trivial rfl trivial (fun _ => rfl)
      constructor
      · intro g2
        exact fin (dq.1 q0) (dn.1 (by simpa using g2))
      · intro e
        have := dn.2 (by rw [← lt]; exact e.ow)
        simp [this]
    · have q0 : ¬ qs = [] := by simpa using g
      exact retw [] ⟨_, rfl, tno fun e => q0 (dq.2 (by rw [← lt]; exact e.ev)), rfl⟩ trivial rfl trivial (fun _ => rfl)
  have hlt : k < p.threads.length := by simpa using g
  have hw := e_succ k _ hlt (by omega)
  have hops : p.pure.threads[k]? = some (p.threads[k]).m := by simp [ProgH.pure, hlt]
  have hlp : k < s.places.length := by omega
  have hls : k < s.status.length := by omega
  have hpl : s.pure.places[k]? = some s.places[k] := List.getElem?_eq_getElem hlp
  have hst : s.pure.status[k]? = some s.status[k] := List.getElem?_eq_getElem hls
  have hth : Fits p.pure s.pure → ThreadOk (p.threads[k]).m s.places[k] s.status[k] (ofKey (events s.pure) k) (ofKey (owners s.pure) k) := fun e => e.threads k _ _ _ hops hpl hst
  obtain ⟨u, hu⟩ : ∃ u, u = (aget qs (k : Int)).getD LH.nil := ⟨_, rfl⟩
  obtain ⟨o, ho⟩ : ∃ o, o = (aget ts (k : Int)).getD LH.nil := ⟨_, rfl⟩
  have hux : u.xs = ofKey (events s.pure) k := by rw [hu]; exact lq.at hps
  have hox : o.xs = ofKey (owners s.pure) k := by rw [ho]; exact lo.at hos
  have hnext : ThreadOk (p.threads[k]).m s.places[k] s.status[k] u.xs o.xs → ∀ (t : Nat) ops at_ st, t < k + 1 → p.pure.threads[t]? = some ops → s.pure.places[t]? = some at_ → s.pure.status[t]? = some st → ThreadOk ops at_ st (ofKey (events s.pure) t) (ofKey (owners s.pure) t) := fun hok t ops a st ht h1 h2 h3 => by
    by_cases e : t < k
    · exact hinv t ops a st e h1 h2 h3
    · obtain rfl : t = k := by omega
      rw [hops] at h1; rw [hpl] at h2; rw [hst] at h3
      injection h1 with h1; injection h2 with h2; injection h3 with h3
      subst h1; subst h2; subst h3
      rw [← hux, ← hox]; exact hok
  rw [← hux, ← hox] at hth
  refine stop_idx encOpSH tabOk rfl rfl rfl rfl rfl ⟨rfl, rfl⟩ (rdVia 4 rfl (.trans (.R_R (progO_threads p)) (.ofR nest_h))) k rfl (by first | omega | (simp; done) | (simp; omega) | (unfold maxLen; omega) | (unfold maxLen; simp; done) | (unfold maxLen; simp; omega)) (fun ad => ?_)
  refine stop_idx encInt tabOk rfl rfl rfl rfl rfl ⟨rfl, rfl⟩ (rdVia 5 rfl (.ofR (stateO_places s))) k rfl (by first | omega | (simp; done) | (simp; omega) | (unfold maxLen; omega) | (unfold maxLen; simp; done) | (unfold maxLen; simp; omega)) (fun ad2 => ?_)
  refine CaseB.mk (fun g => ?_) (fun g => ?_)
  · have q : ¬ 0 ≤ s.places[k] := by have g' := of_decide_eq_true g; omega
    exact retw [] ⟨_, rfl, tno fun e => q (hth e).1, rfl⟩ trivial rfl trivial (fun _ => rfl)
  have a0 : 0 ≤ s.places[k] := by have g' := of_decide_eq_false g; omega
  refine CaseB.mk (fun g => ?_) (fun g => ?_)
  · have q : ¬ s.places[k] ≤ (p.threads[k]).m.length := by have g' := of_decide_eq_true g; omega
    exact retw [] ⟨_, rfl, tno fun e => q (hth e).2.1, rfl⟩ trivial rfl trivial (fun _ => rfl)
  have a1 : s.places[k] ≤ (p.threads[k]).m.length := by have g' := of_decide_eq_false g; omega
  refine draw_start tabOk (by kernel_rfl) (by kernel_rfl) (by kernel_rfl) 200 [] [2, 3, 5] [_, _, _] trivial trivial ⟨rfl, rfl, rfl, trivial⟩ rfl ?_
  refine BothW.mk ?_ ?_
  refine d_lookup 0 (qk := .i64) (kt := 3) (et := 151) (z := .slice none 0 0) rfl rfl rfl rfl ⟨rfl, rfl⟩ (by kernel_rfl) (by kernel_rfl) (by kernel_rfl) (u.q.val u.xs.length) (by rw [hu]; cases aget qs (k : Int) <;> rfl) ?_
  refine d_lookup 1 (qk := .i64) (kt := 3) (et := 22) (z := .slice none 0 0) rfl rfl rfl rfl ⟨rfl, rfl⟩ (by kernel_rfl) (by kernel_rfl) (by kernel_rfl) (o.q.val o.xs.length) (by rw [ho]; cases aget ts (k : Int) <;> rfl) ?_
  rotate_left
  refine d_lookup 1 (qk := .i64) (kt := 3) (et := 22) (z := .slice none 0 0) rfl rfl rfl rfl ⟨rfl, rfl⟩ (by kernel_rfl) (by kernel_rfl) (by kernel_rfl) (o.q.val o.xs.length) (by rw [ho]; cases aget ts (k : Int) <;> rfl) ?_
  refine d_lookup 0 (qk := .i64) (kt := 3) (et := 151) (z := .slice none 0 0) rfl rfl rfl rfl ⟨rfl, rfl⟩ (by kernel_rfl) (by kernel_rfl) (by kernel_rfl) (u.q.val u.xs.length) (by rw [hu]; cases aget qs (k : Int) <;> rfl) ?_
  all_goals
    refine stop_delete 0 (qk := .i64) (kt := 3) (et := 151) rfl rfl rfl rfl rfl rfl rfl rfl (by kernel_rfl) (by kernel_rfl) _ rfl ?_
    refine stop_delete 1 (qk := .i64) (kt := 3) (et := 22) rfl rfl rfl rfl rfl rfl rfl rfl (by kernel_rfl) (by kernel_rfl) _ rfl ?_
    have lq' := lq.next
    have lo' := lo.next
    refine CaseB.mk (fun g => ?_) (fun g => ?_)
    · have ae : s.places[k] = (p.threads[k]).m.length := by simpa using g
      have hne : ∀ {op : Op}, (p.threads[k]).m[(s.places[k]).toNat]? = some op → False := fun h => by
        have := (List.getElem?_eq_some_iff.1 h).1; omega
      have hfin : Fits p.pure s.pure → s.status[k] = 3 ∧ u.xs = [] ∧ o.xs = [] := fun e => by
        rcases (hth e).2.2 with h | ⟨op, h, _⟩
        · exact h.2
        · exact (hne h).elim
      refine stop_idx encInt tabOk rfl rfl rfl rfl rfl ⟨rfl, rfl⟩ (rdVia 5 rfl (.ofR (stateO_status s))) k rfl (by first | omega | (simp; done) | (simp; omega) | (unfold maxLen; omega) | (unfold maxLen; simp; done) | (unfold maxLen; simp; omega)) (fun ad3 => ?_)
      refine CaseB.mk (fun g => ?_) (fun g => ?_)
      · have q : ¬ s.status[k] = 3 := by simpa using g
        exact retw [] ⟨_, rfl, tno fun e => q (hfin e).1, rfl⟩ trivial rfl trivial (fun _ => rfl)
      have s3 : s.status[k] = 3 := by simpa using g
      refine CaseB.mk (fun g => ?_) (fun g => ?_)
      · have q : ¬ u.xs = [] := len_pos.1 g
        exact retw [] ⟨_, rfl, tno fun e => q (hfin e).2.1, rfl⟩ trivial rfl trivial (fun _ => rfl)
      have ux : u.xs = [] := Classical.byContradiction fun n => by rw [len_pos.2 n] at g; cases g
      refine CaseB.mk (fun g => ?_) (fun g => ?_)
      · have q : ¬ o.xs = [] := len_pos.1 g
        exact retw [] ⟨_, rfl, tno fun e => q (hfin e).2.2, rfl⟩ trivial rfl trivial (fun _ => rfl)
      have ox : o.xs = [] := Classical.byContradiction fun n => by rw [len_pos.2 n] at g; cases g
      refine ⟨⟨(k + 1, adel qs (k : Int), adel ts (k : Int)), by omega, lq', lo', hnext ⟨a0, a1, .inl ⟨ae, s3, ux, ox⟩⟩⟩, ?_, by simp only; omega⟩
      refine weak_mk [1, 0, 2, 3, 4, 5] ?_ ?_ ?_ ?_ ?_ rfl rfl
      · repeat (first | exact trivial | refine ⟨⟨_, rfl, (by first | exact .of rfl | exact .lit rfl | exact .of (by first | ((exact congrArg (fun z => SV.v (Value.int .i64 z)) hw))) | exact .lit (by first | ((exact congrArg (fun z => SV.v (Value.int .i64 z)) hw)))), (by first | exact trivial | exact Nat.le_of_ble_eq_true rfl | exact small1 rfl)⟩, ?_⟩)
      · repeat (first | exact trivial | refine ⟨⟨(by first | exact .head _ | exact .tail _ (.head _) | exact .tail _ (.tail _ (.head _)) | exact .tail _ (.tail _ (.tail _ (.head _))) | exact .tail _ (.tail _ (.tail _ (.tail _ (.head _)))) | exact .tail _ (.tail _ (.tail _ (.tail _ (.tail _ (.head _))))) | exact .tail _ (.tail _ (.tail _ (.tail _ (.tail _ (.tail _ (.head _)))))) | exact .tail _ (.tail _ (.tail _ (.tail _ (.tail _ (.tail _ (.tail _ (.head _))))))) | exact .tail _ (.tail _ (.tail _ (.tail _ (.tail _ (.tail _ (.tail _ (.tail _ (.head _)))))))) | exact .tail _ (.tail _ (.tail _ (.tail _ (.tail _ (.tail _ (.tail _ (.tail _ (.tail _ (.head _)))))))))), Nat.le_of_ble_eq_true rfl⟩, ?_⟩)
      · repeat (first | exact trivial | refine ⟨⟨_, rfl, (by first | exact .of rfl | exact .lit rfl | exact .of (by first | ((exact congrArg (fun z => SV.v (Value.int .i64 z)) hw))) | exact .lit (by first | ((exact congrArg (fun z => SV.v (Value.int .i64 z)) hw)))), (by first | exact trivial | exact Nat.le_of_ble_eq_true rfl | exact small1 rfl)⟩, ?_⟩)
      · repeat (first | exact trivial | refine ⟨⟨_, rfl⟩, ?_⟩)
      · repeat (first | exact trivial | refine ⟨.inl ⟨_, rfl, (by first | rfl | ((exact congrArg (fun z => SV.v (Value.int .i64 z)) hw)))⟩, ?_⟩ | refine ⟨.inr ⟨Nat.le_of_ble_eq_true rfl, rfl, rfl, rfl, rfl⟩, ?_⟩)
    have ane : ¬ s.places[k] = (p.threads[k]).m.length := by simpa using g
    have hlo : (s.places[k]).toNat < (p.threads[k]).m.length := by omega
    obtain ⟨op, hop⟩ : ∃ op, (p.threads[k]).m[(s.places[k]).toNat]? = some op := ⟨_, List.getElem?_eq_getElem hlo⟩
    have hopg : (p.threads[k]).m[(s.places[k]).toNat] = op := by rw [List.getElem?_eq_getElem hlo] at hop; injection hop
    have hfin : Fits p.pure s.pure → (s.status[k] = 0 ∧ u.xs = [] ∧ o.xs = []) ∨ (s.status[k] = 1 ∧ o.xs = [] ∧ u.xs = [want op]) ∨ (s.status[k] = 2 ∧ u.xs = [] ∧ op.kind = 4 ∧ o.xs = [op.on]) := fun e => by
      rcases (hth e).2.2 with h | ⟨op', h, h2⟩
      · exact (ane h.1).elim
      · rw [hop] at h; injection h with h; subst h; exact h2
    have hgood : (s.status[k] = 0 ∧ u.xs = [] ∧ o.xs = []) ∨ (s.status[k] = 1 ∧ o.xs = [] ∧ u.xs = [want op]) ∨ (s.status[k] = 2 ∧ u.xs = [] ∧ op.kind = 4 ∧ o.xs = [op.on]) → ThreadOk (p.threads[k]).m s.places[k] s.status[k] u.xs o.xs := fun h => ⟨a0, a1, .inr ⟨op, hop, h⟩⟩
    refine stop_idx encOp tabOk rfl rfl rfl rfl rfl ⟨rfl, rfl⟩ (rdVia 4 rfl (.trans (.R_R (progO_threads p)) (.ofR (threadsO_0 _ _ k hlt)))) (s.places[k]).toNat (by omega) (by first | omega | (simp; done) | (simp; omega) | (unfold maxLen; omega) | (unfold maxLen; simp; done) | (unfold maxLen; simp; omega)) (fun ad3 => ?_)
    rw [hopg]
    refine stop_idx encInt tabOk rfl rfl rfl rfl rfl ⟨rfl, rfl⟩ (rdVia 5 rfl (.ofR (stateO_status s))) k rfl (by first | omega | (simp; done) | (simp; omega) | (unfold maxLen; omega) | (unfold maxLen; simp; done) | (unfold maxLen; simp; omega)) (fun ad4 => ?_)
    refine CaseB.mk (fun g => ?_) (fun g0 => ?_)
    · have s0 : s.status[k] = 0 := by simpa using g
      have hf0 : Fits p.pure s.pure → u.xs = [] ∧ o.xs = [] := fun e => by
        rcases hfin e with h | h | h
        · exact h.2
        · rw [s0] at h; exact absurd h.1 (by decide)
        · rw [s0] at h; exact absurd h.1 (by decide)
      refine CaseB.mk (fun g => ?_) (fun g => ?_)
      · have q : ¬ u.xs = [] := len_pos.1 g
        exact retw [] ⟨_, rfl, tno fun e => q (hf0 e).1, rfl⟩ trivial rfl trivial (fun _ => rfl)
      have ux : u.xs = [] := Classical.byContradiction fun n => by rw [len_pos.2 n] at g; cases g
      refine CaseB.mk (fun g => ?_) (fun g => ?_)
      · have q : ¬ o.xs = [] := len_pos.1 g
        exact retw [] ⟨_, rfl, tno fun e => q (hf0 e).2, rfl⟩ trivial rfl trivial (fun _ => rfl)
      have ox : o.xs = [] := Classical.byContradiction fun n => by rw [len_pos.2 n] at g; cases g
      refine ⟨⟨(k + 1, adel qs (k : Int), adel ts (k : Int)), by omega, lq', lo', hnext (hgood (.inl ⟨s0, ux, ox⟩))⟩, ?_, by simp only; omega⟩
      refine weak_mk [1, 0, 2, 3, 4, 5] ?_ ?_ ?_ ?_ ?_ rfl rfl
      · repeat (first | exact trivial | refine ⟨⟨_, rfl, (by first | exact .of rfl | exact .lit rfl | exact .of (by first | ((exact congrArg (fun z => SV.v (Value.int .i64 z)) hw))) | exact .lit (by first | ((exact congrArg (fun z => SV.v (Value.int .i64 z)) hw)))), (by first | exact trivial | exact Nat.le_of_ble_eq_true rfl | exact small1 rfl)⟩, ?_⟩)
      · repeat (first | exact trivial | refine ⟨⟨(by first | exact .head _ | exact .tail _ (.head _) | exact .tail _ (.tail _ (.head _)) | exact .tail _ (.tail _ (.tail _ (.head _))) | exact .tail _ (.tail _ (.tail _ (.tail _ (.head _)))) | exact .tail _ (.tail _ (.tail _ (.tail _ (.tail _ (.head _))))) | exact .tail _ (.tail _ (.tail _ (.tail _ (.tail _ (.tail _ (.head _)))))) | exact .tail _ (.tail _ (.tail _ (.tail _ (.tail _ (.tail _ (.tail _ (.head _))))))) | exact .tail _ (.tail _ (.tail _ (.tail _ (.tail _ (.tail _ (.tail _ (.tail _ (.head _)))))))) | exact .tail _ (.tail _ (.tail _ (.tail _ (.tail _ (.tail _ (.tail _ (.tail _ (.tail _ (.head _)))))))))), Nat.le_of_ble_eq_true rfl⟩, ?_⟩)
      · repeat (first | exact trivial | refine ⟨⟨_, rfl, (by first | exact .of rfl | exact .lit rfl | exact .of (by first | ((exact congrArg (fun z => SV.v (Value.int .i64 z)) hw))) | exact .lit (by first | ((exact congrArg (fun z => SV.v (Value.int .i64 z)) hw)))), (by first | exact trivial | exact Nat.le_of_ble_eq_true rfl | exact small1 rfl)⟩, ?_⟩)
      · repeat (first | exact trivial | refine ⟨⟨_, rfl⟩, ?_⟩)
      · repeat (first | exact trivial | refine ⟨.inl ⟨_, rfl, (by first | rfl | ((exact congrArg (fun z => SV.v (Value.int .i64 z)) hw)))⟩, ?_⟩ | refine ⟨.inr ⟨Nat.le_of_ble_eq_true rfl, rfl, rfl, rfl, rfl⟩, ?_⟩)
    have n0 : ¬ s.status[k] = 0 := by simpa using g0
    refine CaseB.mk (fun g => ?_) (fun g1 => ?_)
    · have s1 : s.status[k] = 1 := by simpa using g
      have hf1 : Fits p.pure s.pure → o.xs = [] ∧ u.xs = [want op] := fun e => by
        rcases hfin e with h | h | h
        · rw [s1] at h; exact absurd h.1 (by decide)
        · exact h.2
        · rw [s1] at h; exact absurd h.1 (by decide)
      refine CaseB.mk (fun g => ?_) (fun g => ?_)
      · have hk2 : op.kind = 2 ∨ op.kind = 8 := .inl (by simpa using g)
        have hwant : want op = ⟨op.kind, op.on, op.arg⟩ := by simp only [want, if_pos hk2]
        refine draw_start tabOk (by kernel_rfl) (by kernel_rfl) (by kernel_rfl) 200 [((3, 0), .v (.int .i64 op.kind)), ((3, 1), .v (.int .i64 op.on)), ((3, 2), .v (.int .i64 op.arg))] [2] [_] ⟨⟨_, rfl, rfl, (by first | exact trivial | exact Nat.le_of_ble_eq_true rfl)⟩, ⟨_, rfl, rfl, (by first | exact trivial | exact Nat.le_of_ble_eq_true rfl)⟩, ⟨_, rfl, rfl, (by first | exact trivial | exact Nat.le_of_ble_eq_true rfl)⟩, trivial⟩ ⟨⟨_, rfl⟩, ⟨_, rfl⟩, ⟨_, rfl⟩, trivial⟩ ⟨rfl, trivial⟩ rfl ?_
        refine CaseB.mk (fun g => ?_) (fun g => ?_)
        · have q : ¬ o.xs = [] := len_pos.1 g
          exact retw [] ⟨_, rfl, tno fun e => q (hf1 e).1, rfl⟩ trivial rfl trivial (fun _ => rfl)
        have ox : o.xs = [] := Classical.byContradiction fun n => by rw [len_pos.2 n] at g; cases g
        refine CaseB.mk (fun g => ?_) (fun g => ?_)
        · have q : ¬ u.xs.length = 1 := by simp at g; omega
          exact retw [] ⟨_, rfl, tno fun e => q (by rw [(hf1 e).2]; rfl), rfl⟩ trivial rfl trivial (fun _ => rfl)
        have ul : u.xs.length = 1 := by simp at g; omega
        obtain ⟨u0, huu⟩ : ∃ u0, u.xs = [u0] := by
          match hx : u.xs, ul with
          | [x], _ => exact ⟨x, rfl⟩
        have hin : ((k : Int), u) ∈ ps := by
          refine lq.sub.subset (aget_in ?_)
          cases hq : aget qs (k : Int) with
          | none => rw [hq] at hu; rw [hu] at ul; simp [LH.nil] at ul
          | some z => rw [hq] at hu; rw [hu]; rfl
        refine d_idx (ti := tiOf tab) encWait tabOk rfl rfl rfl rfl rfl ⟨rfl, rfl⟩ (rdVia 0 rfl (.ofO (rows_in hin))) 0 rfl (by first | omega | (simp; done) | (simp; omega) | (unfold maxLen; omega) | (unfold maxLen; simp; done) | (unfold maxLen; simp; omega)) (fun ad5 => ?_)
        have hg0 : ∀ h0, u.xs[0]'h0 = u0 := fun h0 => by simp [huu]
        rw [hg0]
        refine d_bin rfl rfl rfl ⟨rfl, rfl⟩ (.bool (decide (u0 ≠ (⟨op.kind, op.on, op.arg⟩ : Waiting)))) (fun w => (run_eqGuard_agg w _ _ _ _ _ _ (by kernel_rfl))) (fun w => (neWait u0 ⟨op.kind, op.on, op.arg⟩ w)) ?_
        refine CaseB.mk (fun g => ?_) (fun g => ?_)
        · have q : ¬ u0 = (⟨op.kind, op.on, op.arg⟩ : Waiting) := by simpa using g
          exact retw [] ⟨_, rfl, tno fun e => q (by have := (hf1 e).2; rw [huu, hwant] at this; injection this), rfl⟩ trivial rfl trivial (fun _ => rfl)
        have ue : u0 = (⟨op.kind, op.on, op.arg⟩ : Waiting) := by simpa using g
        refine ⟨⟨(k + 1, adel qs (k : Int), adel ts (k : Int)), by omega, lq', lo', hnext (hgood (.inr (.inl ⟨s1, ox, by rw [huu, ue, hwant]⟩)))⟩, ?_, by simp only; omega⟩
        refine weak_mk [1, 0, 2, 3, 4, 5] ?_ ?_ ?_ ?_ ?_ rfl rfl
        · repeat (first | exact trivial | refine ⟨⟨_, rfl, (by first | exact .of rfl | exact .lit rfl | exact .of (by first | ((exact congrArg (fun z => SV.v (Value.int .i64 z)) hw))) | exact .lit (by first | ((exact congrArg (fun z => SV.v (Value.int .i64 z)) hw)))), (by first | exact trivial | exact Nat.le_of_ble_eq_true rfl | exact small1 rfl)⟩, ?_⟩)
        · repeat (first | exact trivial | refine ⟨⟨(by first | exact .head _ | exact .tail _ (.head _) | exact .tail _ (.tail _ (.head _)) | exact .tail _ (.tail _ (.tail _ (.head _))) | exact .tail _ (.tail _ (.tail _ (.tail _ (.head _)))) | exact .tail _ (.tail _ (.tail _ (.tail _ (.tail _ (.head _))))) | exact .tail _ (.tail _ (.tail _ (.tail _ (.tail _ (.tail _ (.head _)))))) | exact .tail _ (.tail _ (.tail _ (.tail _ (.tail _ (.tail _ (.tail _ (.head _))))))) | exact .tail _ (.tail _ (.tail _ (.tail _ (.tail _ (.tail _ (.tail _ (.tail _ (.head _)))))))) | exact .tail _ (.tail _ (.tail _ (.tail _ (.tail _ (.tail _ (.tail _ (.tail _ (.tail _ (.head _)))))))))), Nat.le_of_ble_eq_true rfl⟩, ?_⟩)
        · repeat (first | exact trivial | refine ⟨⟨_, rfl, (by first | exact .of rfl | exact .lit rfl | exact .of (by first | ((exact congrArg (fun z => SV.v (Value.int .i64 z)) hw))) | exact .lit (by first | ((exact congrArg (fun z => SV.v (Value.int .i64 z)) hw)))), (by first | exact trivial | exact Nat.le_of_ble_eq_true rfl | exact small1 rfl)⟩, ?_⟩)
        · repeat (first | exact trivial | refine ⟨⟨_, rfl⟩, ?_⟩)
        · repeat (first | exact trivial | refine ⟨.inl ⟨_, rfl, (by first | rfl | ((exact congrArg (fun z => SV.v (Value.int .i64 z)) hw)))⟩, ?_⟩ | refine ⟨.inr ⟨Nat.le_of_ble_eq_true rfl, rfl, rfl, rfl, rfl⟩, ?_⟩)
      · have hn2 : ¬ op.kind = 2 := by simpa using g
        refine CaseB.mk (fun g => ?_) (fun g => ?_)
        · have hk2 : op.kind = 2 ∨ op.kind = 8 := .inr (by simpa using g)
          have hwant : want op = ⟨op.kind, op.on, op.arg⟩ := by simp only [want, if_pos hk2]
          refine draw_start tabOk (by kernel_rfl) (by kernel_rfl) (by kernel_rfl) 200 [((3, 0), .v (.int .i64 op.kind)), ((3, 1), .v (.int .i64 op.on)), ((3, 2), .v (.int .i64 op.arg))] [2] [_] ⟨⟨_, rfl, rfl, (by first | exact trivial | exact Nat.le_of_ble_eq_true rfl)⟩, ⟨_, rfl, rfl, (by first | exact trivial | exact Nat.le_of_ble_eq_true rfl)⟩, ⟨_, rfl, rfl, (by first | exact trivial | exact Nat.le_of_ble_eq_true rfl)⟩, trivial⟩ ⟨⟨_, rfl⟩, ⟨_, rfl⟩, ⟨_, rfl⟩, trivial⟩ ⟨rfl, trivial⟩ rfl ?_
          refine CaseB.mk (fun g => ?_) (fun g => ?_)
          · have q : ¬ o.xs = [] := len_pos.1 g
            exact retw [] ⟨_, rfl, tno fun e => q (hf1 e).1, rfl⟩ trivial rfl trivial (fun _ => rfl)
          have ox : o.xs = [] := Classical.byContradiction fun n => by rw [len_pos.2 n] at g; cases g
          refine CaseB.mk (fun g => ?_) (fun g => ?_)
          · have q : ¬ u.xs.length = 1 := by simp at g; omega
            exact retw [] ⟨_, rfl, tno fun e => q (by rw [(hf1 e).2]; rfl), rfl⟩ trivial rfl trivial (fun _ => rfl)
          have ul : u.xs.length = 1 := by simp at g; omega
          obtain ⟨u0, huu⟩ : ∃ u0, u.xs = [u0] := by
            match hx : u.xs, ul with
            | [x], _ => exact ⟨x, rfl⟩
          have hin : ((k : Int), u) ∈ ps := by
            refine lq.sub.subset (aget_in ?_)
            cases hq : aget qs (k : Int) with
            | none => rw [hq] at hu; rw [hu] at ul; simp [LH.nil] at ul
            | some z => rw [hq] at hu; rw [hu]; rfl
          refine d_idx (ti := tiOf tab) encWait tabOk rfl rfl rfl rfl rfl ⟨rfl, rfl⟩ (rdVia 0 rfl (.ofO (rows_in hin))) 0 rfl (by first | omega | (simp; done) | (simp; omega) | (unfold maxLen; omega) | (unfold maxLen; simp; done) | (unfold maxLen; simp; omega)) (fun ad5 => ?_)
          have hg0 : ∀ h0, u.xs[0]'h0 = u0 := fun h0 => by simp [huu]
          rw [hg0]
          refine d_bin rfl rfl rfl ⟨rfl, rfl⟩ (.bool (decide (u0 ≠ (⟨op.kind, op.on, op.arg⟩ : Waiting)))) (fun w => (run_eqGuard_agg w _ _ _ _ _ _ (by kernel_rfl))) (fun w => (neWait u0 ⟨op.kind, op.on, op.arg⟩ w)) ?_
          refine CaseB.mk (fun g => ?_) (fun g => ?_)
          · have q : ¬ u0 = (⟨op.kind, op.on, op.arg⟩ : Waiting) := by simpa using g
            exact retw [] ⟨_, rfl, tno fun e => q (by have := (hf1 e).2; rw [huu, hwant] at this; injection this), rfl⟩ trivial rfl trivial (fun _ => rfl)
          have ue : u0 = (⟨op.kind, op.on, op.arg⟩ : Waiting) := by simpa using g
          refine ⟨⟨(k + 1, adel qs (k : Int), adel ts (k : Int)), by omega, lq', lo', hnext (hgood (.inr (.inl ⟨s1, ox, by rw [huu, ue, hwant]⟩)))⟩, ?_, by simp only; omega⟩
          refine weak_mk [1, 0, 2, 3, 4, 5] ?_ ?_ ?_ ?_ ?_ rfl rfl
          · repeat (first | exact trivial | refine ⟨⟨_, rfl, (by first | exact .of rfl | exact .lit rfl | exact .of (by first | ((exact congrArg (fun z => SV.v (Value.int .i64 z)) hw))) | exact .lit (by first | ((exact congrArg (fun z => SV.v (Value.int .i64 z)) hw)))), (by first | exact trivial | exact Nat.le_of_ble_eq_true rfl | exact small1 rfl)⟩, ?_⟩)
          · repeat (first | exact trivial | refine ⟨⟨(by first | exact .head _ | exact .tail _ (.head _) | exact .tail _ (.tail _ (.head _)) | exact .tail _ (.tail _ (.tail _ (.head _))) | exact .tail _ (.tail _ (.tail _ (.tail _ (.head _)))) | exact .tail _ (.tail _ (.tail _ (.tail _ (.tail _ (.head _))))) | exact .tail _ (.tail _ (.tail _ (.tail _ (.tail _ (.tail _ (.head _)))))) | exact .tail _ (.tail _ (.tail _ (.tail _ (.tail _ (.tail _ (.tail _ (.head _))))))) | exact .tail _ (.tail _ (.tail _ (.tail _ (.tail _ (.tail _ (.tail _ (.tail _ (.head _)))))))) | exact .tail _ (.tail _ (.tail _ (.tail _ (.tail _ (.tail _ (.tail _ (.tail _ (.tail _ (.head _)))))))))), Nat.le_of_ble_eq_true rfl⟩, ?_⟩)
          · repeat (first | exact trivial | refine ⟨⟨_, rfl, (by first | exact .of rfl | exact .lit rfl | exact .of (by first | ((exact congrArg (fun z => SV.v (Value.int .i64 z)) hw))) | exact .lit (by first | ((exact congrArg (fun z => SV.v (Value.int .i64 z)) hw)))), (by first | exact trivial | exact Nat.le_of_ble_eq_true rfl | exact small1 rfl)⟩, ?_⟩)
          · repeat (first | exact trivial | refine ⟨⟨_, rfl⟩, ?_⟩)
          · repeat (first | exact trivial | refine ⟨.inl ⟨_, rfl, (by first | rfl | ((exact congrArg (fun z => SV.v (Value.int .i64 z)) hw)))⟩, ?_⟩ | refine ⟨.inr ⟨Nat.le_of_ble_eq_true rfl, rfl, rfl, rfl, rfl⟩, ?_⟩)
        · have hn8 : ¬ op.kind = 8 := by simpa using g
          have hwant : want op = ⟨op.kind, op.on, 0⟩ := by simp only [want, if_neg (show ¬ (op.kind = 2 ∨ op.kind = 8) from fun h => h.elim hn2 hn8)]
          refine draw_start tabOk (by kernel_rfl) (by kernel_rfl) (by kernel_rfl) 200 [((3, 0), .v (.int .i64 op.kind)), ((3, 1), .v (.int .i64 op.on)), ((3, 2), .v (.int .i64 0))] [2] [_] ⟨⟨_, rfl, rfl, (by first | exact trivial | exact Nat.le_of_ble_eq_true rfl)⟩, ⟨_, rfl, rfl, (by first | exact trivial | exact Nat.le_of_ble_eq_true rfl)⟩, ⟨_, rfl, rfl, (by first | exact trivial | exact Nat.le_of_ble_eq_true rfl)⟩, trivial⟩ ⟨⟨_, rfl⟩, ⟨_, rfl⟩, ⟨_, rfl⟩, trivial⟩ ⟨rfl, trivial⟩ rfl ?_
          refine CaseB.mk (fun g => ?_) (fun g => ?_)
          · have q : ¬ o.xs = [] := len_pos.1 g
            exact retw [] ⟨_, rfl, tno fun e => q (hf1 e).1, rfl⟩ trivial rfl trivial (fun _ => rfl)
          have ox : o.xs = [] := Classical.byContradiction fun n => by rw [len_pos.2 n] at g; cases g
          refine CaseB.mk (fun g => ?_) (fun g => ?_)
          · have q : ¬ u.xs.length = 1 := by simp at g; omega
            exact retw [] ⟨_, rfl, tno fun e => q (by rw [(hf1 e).2]; rfl), rfl⟩ trivial rfl trivial (fun _ => rfl)
          have ul : u.xs.length = 1 := by simp at g; omega
          obtain ⟨u0, huu⟩ : ∃ u0, u.xs = [u0] := by
            match hx : u.xs, ul with
            | [x], _ => exact ⟨x, rfl⟩
          have hin : ((k : Int), u) ∈ ps := by
            refine lq.sub.subset (aget_in ?_)
            cases hq : aget qs (k : Int) with
            | none => rw [hq] at hu; rw [hu] at ul; simp [LH.nil] at ul
            | some z => rw [hq] at hu; rw [hu]; rfl
          refine d_idx (ti := tiOf tab) encWait tabOk rfl rfl rfl rfl rfl ⟨rfl, rfl⟩ (rdVia 0 rfl (.ofO (rows_in hin))) 0 rfl (by first | omega | (simp; done) | (simp; omega) | (unfold maxLen; omega) | (unfold maxLen; simp; done) | (unfold maxLen; simp; omega)) (fun ad5 => ?_)
          have hg0 : ∀ h0, u.xs[0]'h0 = u0 := fun h0 => by simp [huu]
          rw [hg0]
          refine d_bin rfl rfl rfl ⟨rfl, rfl⟩ (.bool (decide (u0 ≠ (⟨op.kind, op.on, 0⟩ : Waiting)))) (fun w => (run_eqGuard_agg w _ _ _ _ _ _ (by kernel_rfl))) (fun w => (neWait u0 ⟨op.kind, op.on, 0⟩ w)) ?_
          refine CaseB.mk (fun g => ?_) (fun g => ?_)
          · have q : ¬ u0 = (⟨op.kind, op.on, 0⟩ : Waiting) := by simpa using g
            exact retw [] ⟨_, rfl, tno fun e => q (by have := (hf1 e).2; rw [huu, hwant] at this; injection this), rfl⟩ trivial rfl trivial (fun _ => rfl)
          have ue : u0 = (⟨op.kind, op.on, 0⟩ : Waiting) := by simpa using g
          refine ⟨⟨(k + 1, adel qs (k : Int), adel ts (k : Int)), by omega, lq', lo', hnext (hgood (.inr (.inl ⟨s1, ox, by rw [huu, ue, hwant]⟩)))⟩, ?_, by simp only; omega⟩
          refine weak_mk [1, 0, 2, 3, 4, 5] ?_ ?_ ?_ ?_ ?_ rfl rfl
          · repeat (first | exact trivial | refine ⟨⟨_, rfl, (by first | exact .of rfl | exact .lit rfl | exact .of (by first | ((exact congrArg (fun z => SV.v (Value.int .i64 z)) hw))) | exact .lit (by first | ((exact congrArg (fun z => SV.v (Value.int .i64 z)) hw)))), (by first | exact trivial | exact Nat.le_of_ble_eq_true rfl | exact small1 rfl)⟩, ?_⟩)
          · repeat (first | exact trivial | refine ⟨⟨(by first | exact .head _ | exact .tail _ (.head _) | exact .tail _ (.tail _ (.head _)) | exact .tail _ (.tail _ (.tail _ (.head _))) | exact .tail _ (.tail _ (.tail _ (.tail _ (.head _)))) | exact .tail _ (.tail _ (.tail _ (.tail _ (.tail _ (.head _))))) | exact .tail _ (.tail _ (.tail _ (.tail _ (.tail _ (.tail _ (.head _)))))) | exact .tail _ (.tail _ (.tail _ (.tail _ (.tail _ (.tail _ (.tail _ (.head _))))))) | exact .tail _ (.tail _ (.tail _ (.tail _ (.tail _ (.tail _ (.tail _ (.tail _ (.head _)))))))) | exact .tail _ (.tail _ (.tail _ (.tail _ (.tail _ (.tail _ (.tail _ (.tail _ (.tail _ (.head _)))))))))), Nat.le_of_ble_eq_true rfl⟩, ?_⟩)
          · repeat (first | exact trivial | refine ⟨⟨_, rfl, (by first | exact .of rfl | exact .lit rfl | exact .of (by first | ((exact congrArg (fun z => SV.v (Value.int .i64 z)) hw))) | exact .lit (by first | ((exact congrArg (fun z => SV.v (Value.int .i64 z)) hw)))), (by first | exact trivial | exact Nat.le_of_ble_eq_true rfl | exact small1 rfl)⟩, ?_⟩)
          · repeat (first | exact trivial | refine ⟨⟨_, rfl⟩, ?_⟩)
          · repeat (first | exact trivial | refine ⟨.inl ⟨_, rfl, (by first | rfl | ((exact congrArg (fun z => SV.v (Value.int .i64 z)) hw)))⟩, ?_⟩ | refine ⟨.inr ⟨Nat.le_of_ble_eq_true rfl, rfl, rfl, rfl, rfl⟩, ?_⟩)
    have n1 : ¬ s.status[k] = 1 := by simpa using g1
    refine CaseB.mk (fun g => ?_) (fun g2 => ?_)
    · have s2 : s.status[k] = 2 := by simpa using g
      have hf2 : Fits p.pure s.pure → u.xs = [] ∧ op.kind = 4 ∧ o.xs = [op.on] := fun e => by
        rcases hfin e with h | h | h
        · rw [s2] at h; exact absurd h.1 (by decide)
        · rw [s2] at h; exact absurd h.1 (by decide)
        · exact h.2
      refine draw_start tabOk (by kernel_rfl) (by kernel_rfl) (by kernel_rfl) 200 [((2, 0), .v (.int .i64 op.kind)), ((2, 1), .v (.int .i64 op.on))] [3] [_] ⟨⟨_, rfl, rfl, (by first | exact trivial | exact Nat.le_of_ble_eq_true rfl)⟩, ⟨_, rfl, rfl, (by first | exact trivial | exact Nat.le_of_ble_eq_true rfl)⟩, trivial⟩ ⟨⟨_, rfl⟩, ⟨_, rfl⟩, trivial⟩ ⟨rfl, trivial⟩ rfl ?_
      refine CaseB.mk (fun g => ?_) (fun g => ?_)
      · have q : ¬ u.xs = [] := len_pos.1 g
        exact retw [] ⟨_, rfl, tno fun e => q (hf2 e).1, rfl⟩ trivial rfl trivial (fun _ => rfl)
      have ux : u.xs = [] := Classical.byContradiction fun n => by rw [len_pos.2 n] at g; cases g
      refine CaseB.mk (fun g => ?_) (fun g => ?_)
      · have q : ¬ op.kind = 4 := by simpa using g
        exact retw [] ⟨_, rfl, tno fun e => q (hf2 e).2.1, rfl⟩ trivial rfl trivial (fun _ => rfl)
      have k4 : op.kind = 4 := by simpa using g
      refine CaseB.mk (fun g => ?_) (fun g => ?_)
      · have q : ¬ o.xs.length = 1 := by simp at g; omega
        exact retw [] ⟨_, rfl, tno fun e => q (by rw [(hf2 e).2.2]; rfl), rfl⟩ trivial rfl trivial (fun _ => rfl)
      have ol : o.xs.length = 1 := by simp at g; omega
      obtain ⟨o0, hoo⟩ : ∃ o0, o.xs = [o0] := by
        match hx : o.xs, ol with
        | [x], _ => exact ⟨x, rfl⟩
      have hin : ((k : Int), o) ∈ os := by
        refine lo.sub.subset (aget_in ?_)
        cases hq : aget ts (k : Int) with
        | none => rw [hq] at ho; rw [ho] at ol; simp [LH.nil] at ol
        | some z => rw [hq] at ho; rw [ho]; rfl
      refine d_idx (ti := tiOf tab) encInt tabOk rfl rfl rfl rfl rfl ⟨rfl, rfl⟩ (rdVia 0 rfl (.ofO (rows_in hin))) 0 rfl (by first | omega | (simp; done) | (simp; omega) | (unfold maxLen; omega) | (unfold maxLen; simp; done) | (unfold maxLen; simp; omega)) (fun ad5 => ?_)
      have hg0 : ∀ h0, o.xs[0]'h0 = o0 := fun h0 => by simp [hoo]
      rw [hg0]
      refine CaseB.mk (fun g => ?_) (fun g => ?_)
      · have q : ¬ o0 = op.on := by simpa using g
        exact retw [] ⟨_, rfl, tno fun e => q (by have := (hf2 e).2.2; rw [hoo] at this; injection this), rfl⟩ trivial rfl trivial (fun _ => rfl)
      have oe : o0 = op.on := by simpa using g
      refine ⟨⟨(k + 1, adel qs (k : Int), adel ts (k : Int)), by omega, lq', lo', hnext (hgood (.inr (.inr ⟨s2, ux, k4, by rw [hoo, oe]⟩)))⟩, ?_, by simp only; omega⟩
      refine weak_mk [1, 0, 2, 3, 4, 5] ?_ ?_ ?_ ?_ ?_ rfl rfl
      · repeat (first | exact trivial | refine ⟨⟨_, rfl, (by first | exact .of rfl | exact .lit rfl | exact .of (by first | ((exact congrArg (fun z => SV.v (Value.int .i64 z)) hw))) | exact .lit (by first | ((exact congrArg (fun z => SV.v (Value.int .i64 z)) hw)))), (by first | exact trivial | exact Nat.le_of_ble_eq_true rfl | exact small1 rfl)⟩, ?_⟩)
      · repeat (first | exact trivial | refine ⟨⟨(by first | exact .head _ | exact .tail _ (.head _) | exact .tail _ (.tail _ (.head _)) | exact .tail _ (.tail _ (.tail _ (.head _))) | exact .tail _ (.tail _ (.tail _ (.tail _ (.head _)))) | exact .tail _ (.tail _ (.tail _ (.tail _ (.tail _ (.head _))))) | exact .tail _ (.tail _ (.tail _ (.tail _ (.tail _ (.tail _ (.head _)))))) | exact .tail _ (.tail _ (.tail _ (.tail _ (.tail _ (.tail _ (.tail _ (.head _))))))) | exact .tail _ (.tail _ (.tail _ (.tail _ (.tail _ (.tail _ (.tail _ (.tail _ (.head _)))))))) | exact .tail _ (.tail _ (.tail _ (.tail _ (.tail _ (.tail _ (.tail _ (.tail _ (.tail _ (.head _)))))))))), Nat.le_of_ble_eq_true rfl⟩, ?_⟩)
      · repeat (first | exact trivial | refine ⟨⟨_, rfl, (by first | exact .of rfl | exact .lit rfl | exact .of (by first | ((exact congrArg (fun z => SV.v (Value.int .i64 z)) hw))) | exact .lit (by first | ((exact congrArg (fun z => SV.v (Value.int .i64 z)) hw)))), (by first | exact trivial | exact Nat.le_of_ble_eq_true rfl | exact small1 rfl)⟩, ?_⟩)
      · repeat (first | exact trivial | refine ⟨⟨_, rfl⟩, ?_⟩)
      · repeat (first | exact trivial | refine ⟨.inl ⟨_, rfl, (by first | rfl | ((exact congrArg (fun z => SV.v (Value.int .i64 z)) hw)))⟩, ?_⟩ | refine ⟨.inr ⟨Nat.le_of_ble_eq_true rfl, rfl, rfl, rfl, rfl⟩, ?_⟩)
    have n2 : ¬ s.status[k] = 2 := by simpa using g2
    exact retw [] ⟨_, rfl, tno fun e => (by rcases hfin e with h | h | h; exact n0 h.1; exact n1 h.1; exact n2 h.1), rfl⟩ trivial rfl trivial (fun _ => rfl)

end Go.Proofs.YtklclbcckjhdpaaGreat
