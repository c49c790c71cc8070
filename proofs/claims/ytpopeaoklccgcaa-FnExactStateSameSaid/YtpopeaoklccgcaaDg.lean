/- The exact laws' helpers for lists of Sem: nested rows. -/
import Derived.Test.YtpopeaoklccgcaaDc
namespace Go.Proofs.Ytpopeaoklccgcaa

open Go Go.Sx Go.RowKit

set_option maxRecDepth 100000 in
theorem szSemS_c (h : Sl) (xs : List SemH) (left : Int) (w : World) (hh : At w [fR (semsO h xs)]) (h0 : -1 ≤ left) (h1 : left ≤ 1048576) :
    Calls Try.prog 25 #[h.val xs.length, .int .i64 left] w (Ret w fun v L => v = .int .i64 (szAll szSemM (xs.map (·.m)) left) ∧ L = []) := by
  have hrd := (Rd.ofR (nest_h (xs := xs))).p w hh.1.1
  obtain ⟨_, b1, b2, _⟩ := hrd
  unfold maxLen at b2
  have e : IntKind.i64.wrap (left - (xs.length : Int)) = left - xs.length := e_wrap (by omega) (by omega)
  refine calls2 Try.func25 rfl tabOk w _ rfl _ rfl _ hh ⟨rfl, rfl, trivial⟩ _ _ (by decide) ?_
  refine CaseB.mk (fun g => ?_) (fun g => ?_)
  · rw [e] at g
    have g2 : left - (xs.length : Int) < 0 := by simpa using g
    exact retw [] ⟨by simp [szAll, g2], rfl⟩ trivial rfl trivial (fun _ => rfl)
  · rw [e] at g
    have g2 : ¬ left - (xs.length : Int) < 0 := by simpa using g
    refine LoopW.mk ⟨{ p : Nat × Int // p.1 ≤ xs.length ∧ szList szSemM ((xs.map (·.m)).drop p.1) p.2 = szAll szSemM (xs.map (·.m)) left ∧ -1 ≤ p.2 ∧ p.2 ≤ 1048576 },
      fun p => .mk [(0, .v (h.val xs.length)), (1, .v (.int .i64 p.1.2)), (5, .v (.int .i64 (p.1.1 : Int)))] 0 0 [] [] [fR (semsO h xs)],
      fun p => xs.length - p.1.1, ⟨(0, left - xs.length), Nat.zero_le _, by simp [szAll, g2], by omega, by omega⟩, ?_, ?_⟩
    · refine weak_mk [0] ?_ ?_ ?_ ?_ ?_ rfl rfl
      · repeat (first | exact trivial | refine ⟨⟨_, rfl, (by first | exact .of rfl | exact .lit rfl | exact .of (by first | ((simp only [e]))) | exact .lit (by first | ((simp only [e])))), (by first | exact trivial | exact Nat.le_of_ble_eq_true rfl)⟩, ?_⟩)
      · repeat (first | exact trivial | refine ⟨⟨(by first | exact .head _ | exact .tail _ (.head _) | exact .tail _ (.tail _ (.head _)) | exact .tail _ (.tail _ (.tail _ (.head _))) | exact .tail _ (.tail _ (.tail _ (.tail _ (.head _)))) | exact .tail _ (.tail _ (.tail _ (.tail _ (.tail _ (.head _))))) | exact .tail _ (.tail _ (.tail _ (.tail _ (.tail _ (.tail _ (.head _)))))) | exact .tail _ (.tail _ (.tail _ (.tail _ (.tail _ (.tail _ (.tail _ (.head _))))))) | exact .tail _ (.tail _ (.tail _ (.tail _ (.tail _ (.tail _ (.tail _ (.tail _ (.head _)))))))) | exact .tail _ (.tail _ (.tail _ (.tail _ (.tail _ (.tail _ (.tail _ (.tail _ (.tail _ (.head _)))))))))), Nat.le_of_ble_eq_true rfl⟩, ?_⟩)
      · repeat (first | exact trivial | refine ⟨⟨_, rfl, (by first | exact .of rfl | exact .lit rfl | exact .of (by first | ((simp only [e]))) | exact .lit (by first | ((simp only [e])))), (by first | exact trivial | exact Nat.le_of_ble_eq_true rfl)⟩, ?_⟩)
      · repeat (first | exact trivial | refine ⟨⟨_, rfl⟩, ?_⟩)
      · repeat (first | exact trivial | refine ⟨.inl ⟨_, rfl, (by first | rfl | ((simp only [e])))⟩, ?_⟩ | refine ⟨.inr ⟨Nat.le_of_ble_eq_true rfl, rfl, rfl, rfl, rfl⟩, ?_⟩)
    · rintro ⟨⟨k, l⟩, hk, hl, hl0, hl1⟩
      simp only at hk hl hl0 hl1
      refine CaseB.mk (fun g3 => ?_) (fun g3 => ?_)
      · have hlt : k < xs.length := by simpa using g3
        rw [List.drop_eq_getElem_cons (by simpa using hlt)] at hl
        simp only [szList, List.getElem_map] at hl
        refine stop_idx encSemH tabOk rfl rfl rfl rfl rfl ⟨rfl, rfl⟩ (rdVia 0 rfl (.ofR nest_h)) k rfl (by first | omega | (simp; done) | (simp; omega) | (unfold maxLen; omega) | (unfold maxLen; simp; done) | (unfold maxLen; simp; omega)) (fun ad => ?_)
        refine stop_call _ cl89 rfl rfl rfl rfl ⟨rfl, rfl⟩ (fun A w hW => szSem_c _ _ _ w ⟨hW.get 0 rfl (.ofR (semsO_0 h xs k hlt)), trivial⟩ hl0 hl1) ?_
        rintro v L ⟨rfl, rfl⟩
        refine CaseB.mk (fun g4 => ?_) (fun g4 => ?_)
        · have q : szSemM xs[k].m l < 0 := by simpa using g4
          rw [if_pos q] at hl
          exact retw [] ⟨by rw [← hl], rfl⟩ trivial rfl trivial (fun _ => rfl)
        · have q : ¬ szSemM xs[k].m l < 0 := by simpa using g4
          rw [if_neg q] at hl
          have q2 := (szSemM_gen xs[k].m l hl1 q).2
          have hw := e_succ k _ hlt (by omega)
          refine ⟨⟨(k + 1, szSemM xs[k].m l), hlt, hl, by omega, by omega⟩, ?_, by simp only; omega⟩
          refine weak_mk [0] ?_ ?_ ?_ ?_ ?_ rfl rfl
          · repeat (first | exact trivial | refine ⟨⟨_, rfl, (by first | exact .of rfl | exact .lit rfl | exact .of (by first | ((exact congrArg (fun z => SV.v (Value.int .i64 z)) hw))) | exact .lit (by first | ((exact congrArg (fun z => SV.v (Value.int .i64 z)) hw)))), (by first | exact trivial | exact Nat.le_of_ble_eq_true rfl)⟩, ?_⟩)
          · repeat (first | exact trivial | refine ⟨⟨(by first | exact .head _ | exact .tail _ (.head _) | exact .tail _ (.tail _ (.head _)) | exact .tail _ (.tail _ (.tail _ (.head _))) | exact .tail _ (.tail _ (.tail _ (.tail _ (.head _)))) | exact .tail _ (.tail _ (.tail _ (.tail _ (.tail _ (.head _))))) | exact .tail _ (.tail _ (.tail _ (.tail _ (.tail _ (.tail _ (.head _)))))) | exact .tail _ (.tail _ (.tail _ (.tail _ (.tail _ (.tail _ (.tail _ (.head _))))))) | exact .tail _ (.tail _ (.tail _ (.tail _ (.tail _ (.tail _ (.tail _ (.tail _ (.head _)))))))) | exact .tail _ (.tail _ (.tail _ (.tail _ (.tail _ (.tail _ (.tail _ (.tail _ (.tail _ (.head _)))))))))), Nat.le_of_ble_eq_true rfl⟩, ?_⟩)
          · repeat (first | exact trivial | refine ⟨⟨_, rfl, (by first | exact .of rfl | exact .lit rfl | exact .of (by first | ((exact congrArg (fun z => SV.v (Value.int .i64 z)) hw))) | exact .lit (by first | ((exact congrArg (fun z => SV.v (Value.int .i64 z)) hw)))), (by first | exact trivial | exact Nat.le_of_ble_eq_true rfl)⟩, ?_⟩)
          · repeat (first | exact trivial | refine ⟨⟨_, rfl⟩, ?_⟩)
          · repeat (first | exact trivial | refine ⟨.inl ⟨_, rfl, (by first | rfl | ((exact congrArg (fun z => SV.v (Value.int .i64 z)) hw)))⟩, ?_⟩ | refine ⟨.inr ⟨Nat.le_of_ble_eq_true rfl, rfl, rfl, rfl, rfl⟩, ?_⟩)
      · have hge : xs.length ≤ k := by simpa using g3
        rw [List.drop_eq_nil_of_le (by simpa using hge)] at hl
        exact retw [] ⟨congrArg (Value.int .i64) hl, rfl⟩ trivial rfl trivial (fun _ => rfl)

def SemH0 : SemH := ⟨⟨0, 0, []⟩, ⟨none, 0⟩⟩

set_option maxRecDepth 100000 in
theorem toSemS_c (h : Sl) (xs : List SemH) (w : World) (hh : At w [fR (semsO h xs)]) (hl : xs.length ≤ 1048576) (hb : ∀ x ∈ xs, Sem.small20 x.m) :
    Calls Try.prog 34 #[h.val xs.length] w (Ret w fun v L => ∃ (y : Sl) (ys : List SemH), v = y.val ys.length ∧ ys.map (·.m) = xs.map (·.m) ∧ L = [fO (semsO y ys)]) := by
  refine calls1 Try.func34 rfl tabOk w _ rfl _ rfl _ hh ⟨rfl, rfl, trivial⟩ _ (by decide) ?_
  refine stop_make encSemH SemH0 tabOk rfl rfl rfl rfl rfl (by decide) ⟨rfl, rfl⟩ xs.length rfl (by first | omega | (simp; done) | (simp; omega) | (unfold maxLen; omega) | (unfold maxLen; simp; done) | (unfold maxLen; simp; omega)) (by first | omega | (simp; done) | (simp; omega) | (unfold maxLen; omega) | (unfold maxLen; simp; done) | (unfold maxLen; simp; omega)) (fun y => ?_)
  refine LoopW.mk ⟨{ p : Nat × List SemH // p.1 ≤ xs.length ∧ p.2.map (·.m) = (xs.map (·.m)).take p.1 },
    fun p => .mk [(0, .v (h.val xs.length)), (3, .v (y.val (p.1.2 ++ List.replicate (xs.length - p.1.1) SemH0).length)), (4, .v (.int .i64 (p.1.1 : Int)))] 0 0 [] [] [own y 85 cSemH 3 (p.1.2 ++ List.replicate (xs.length - p.1.1) SemH0), fO (p.1.2.flatMap semO), fR (semsO h xs)],
    fun p => xs.length - p.1.1, ⟨(0, []), Nat.zero_le _, by simp⟩, ?_, ?_⟩
  · refine weak_shift (.joinO [] (Gs := []) trivial rfl (.refl _)) ?_
    refine weak_mk [1, 0, 2] ?_ ?_ ?_ ?_ ?_ rfl rfl
    · repeat (first | exact trivial | refine ⟨⟨_, rfl, (by first | exact .of rfl | exact .lit rfl | exact .of (by first | ((simp))) | exact .lit (by first | ((simp)))), (by first | exact trivial | exact Nat.le_of_ble_eq_true rfl)⟩, ?_⟩)
    · repeat (first | exact trivial | refine ⟨⟨(by first | exact .head _ | exact .tail _ (.head _) | exact .tail _ (.tail _ (.head _)) | exact .tail _ (.tail _ (.tail _ (.head _))) | exact .tail _ (.tail _ (.tail _ (.tail _ (.head _)))) | exact .tail _ (.tail _ (.tail _ (.tail _ (.tail _ (.head _))))) | exact .tail _ (.tail _ (.tail _ (.tail _ (.tail _ (.tail _ (.head _)))))) | exact .tail _ (.tail _ (.tail _ (.tail _ (.tail _ (.tail _ (.tail _ (.head _))))))) | exact .tail _ (.tail _ (.tail _ (.tail _ (.tail _ (.tail _ (.tail _ (.tail _ (.head _)))))))) | exact .tail _ (.tail _ (.tail _ (.tail _ (.tail _ (.tail _ (.tail _ (.tail _ (.tail _ (.head _)))))))))), Nat.le_of_ble_eq_true rfl⟩, ?_⟩)
    · repeat (first | exact trivial | refine ⟨⟨_, rfl, (by first | exact .of rfl | exact .lit rfl | exact .of (by first | ((simp))) | exact .lit (by first | ((simp)))), (by first | exact trivial | exact Nat.le_of_ble_eq_true rfl)⟩, ?_⟩)
    · repeat (first | exact trivial | refine ⟨⟨_, rfl⟩, ?_⟩)
    · repeat (first | exact trivial | refine ⟨.inl ⟨_, rfl, (by first | rfl | ((simp)))⟩, ?_⟩ | refine ⟨.inr ⟨Nat.le_of_ble_eq_true rfl, rfl, rfl, rfl, rfl⟩, ?_⟩)
  · rintro ⟨⟨k, ys⟩, hk, hy⟩
    simp only at hk hy
    have hyl : ys.length = k := by have := congrArg List.length hy; simp at this; omega
    refine CaseB.mk (fun g => ?_) (fun g => ?_)
    · have hlt : k < xs.length := by simpa using g
      have hlt2 : k < (ys ++ List.replicate (xs.length - k) SemH0).length := by simp; omega
      refine stop_idx encSemH tabOk rfl rfl rfl rfl rfl ⟨rfl, rfl⟩ (rdVia 2 rfl (.ofR nest_h)) k rfl (by first | omega | (simp; done) | (simp; omega) | (unfold maxLen; omega) | (unfold maxLen; simp; done) | (unfold maxLen; simp; omega)) (fun ad => ?_)
      refine stop_call _ cl98 rfl rfl rfl rfl ⟨rfl, rfl⟩ (fun A w hW => toSem_c _ _ w ⟨hW.get 2 rfl (.ofR (semsO_0 h xs k hlt)), trivial⟩ (hb _ (List.getElem_mem hlt))) ?_
      rintro v L ⟨y0, rfl, rfl⟩
      generalize hx : (⟨xs[k].m, y0⟩ : SemH) = x
      have hxm : x.m = xs[k].m := by rw [← hx]
      have hT : (ys ++ List.replicate (xs.length - k) SemH0).set k x = (ys ++ [x]) ++ List.replicate (xs.length - (k + 1)) SemH0 := by
        rw [List.set_append_right _ _ (by omega), show k - ys.length = 0 by omega, show xs.length - k = (xs.length - (k + 1)) + 1 by omega, List.replicate_succ, List.append_assoc]
        rfl
      generalize hq : (ys ++ List.replicate (xs.length - k) SemH0) = Q at hT hlt2
      refine stop_idxW encSemH 1 tabOk rfl rfl rfl rfl rfl ⟨rfl, rfl⟩ rfl (by first | rfl | (simp; done)) k rfl hlt2 (fun g1 hg1 => ?_)
      refine stop_storeW encSemH 1 tabOk rfl rfl rfl rfl rfl rfl rfl rfl hg1 k 0 x rfl hlt2 rfl (cSemH x) (fun _ => by rw [← hx]; rfl) (by rw [List.drop_eq_nil_of_le (by exact Nat.le_refl _)]; simp) ?_
      have hw := e_succ k _ hlt (by omega)
      refine ⟨⟨(k + 1, ys ++ [x]), hlt, by rw [List.map_append]; exact map_take_succ hlt hy hxm⟩, ?_, by simp only; omega⟩
      refine weak_shift (.joinO [1, 2] (Gs := [[_], _]) ⟨.inl ⟨_, rfl, .own⟩, .inl ⟨_, rfl, .o⟩, trivial⟩ rfl (G := (ys ++ [x]).flatMap semO) (by subst hx; rw [List.flatMap_append]; exact (List.Perm.of_eq (by simp [semO])).trans List.perm_append_comm)) ?_
      refine weak_mk [1, 0, 2] ?_ ?_ ?_ ?_ ?_ rfl rfl
      · repeat (first | exact trivial | refine ⟨⟨_, rfl, (by first | exact .of rfl | exact .lit rfl | exact .of (by first | ((first | (rw [hT]; done) | (simp only [hT]; done) | exact congrArg (fun z => SV.v (Value.int .i64 z)) hw | (rw [← hT]; simp)))) | exact .lit (by first | ((first | (rw [hT]; done) | (simp only [hT]; done) | exact congrArg (fun z => SV.v (Value.int .i64 z)) hw | (rw [← hT]; simp))))), (by first | exact trivial | exact Nat.le_of_ble_eq_true rfl)⟩, ?_⟩)
      · repeat (first | exact trivial | refine ⟨⟨(by first | exact .head _ | exact .tail _ (.head _) | exact .tail _ (.tail _ (.head _)) | exact .tail _ (.tail _ (.tail _ (.head _))) | exact .tail _ (.tail _ (.tail _ (.tail _ (.head _)))) | exact .tail _ (.tail _ (.tail _ (.tail _ (.tail _ (.head _))))) | exact .tail _ (.tail _ (.tail _ (.tail _ (.tail _ (.tail _ (.head _)))))) | exact .tail _ (.tail _ (.tail _ (.tail _ (.tail _ (.tail _ (.tail _ (.head _))))))) | exact .tail _ (.tail _ (.tail _ (.tail _ (.tail _ (.tail _ (.tail _ (.tail _ (.head _)))))))) | exact .tail _ (.tail _ (.tail _ (.tail _ (.tail _ (.tail _ (.tail _ (.tail _ (.tail _ (.head _)))))))))), Nat.le_of_ble_eq_true rfl⟩, ?_⟩)
      · repeat (first | exact trivial | refine ⟨⟨_, rfl, (by first | exact .of rfl | exact .lit rfl | exact .of (by first | ((first | (rw [hT]; done) | (simp only [hT]; done) | exact congrArg (fun z => SV.v (Value.int .i64 z)) hw | (rw [← hT]; simp)))) | exact .lit (by first | ((first | (rw [hT]; done) | (simp only [hT]; done) | exact congrArg (fun z => SV.v (Value.int .i64 z)) hw | (rw [← hT]; simp))))), (by first | exact trivial | exact Nat.le_of_ble_eq_true rfl)⟩, ?_⟩)
      · repeat (first | exact trivial | refine ⟨⟨_, rfl⟩, ?_⟩)
      · repeat (first | exact trivial | refine ⟨.inl ⟨_, rfl, (by first | rfl | ((first | (rw [hT]; done) | (simp only [hT]; done) | exact congrArg (fun z => SV.v (Value.int .i64 z)) hw | (rw [← hT]; simp))))⟩, ?_⟩ | refine ⟨.inr ⟨Nat.le_of_ble_eq_true rfl, rfl, rfl, rfl, rfl⟩, ?_⟩)
    · have hge : xs.length ≤ k := by simpa using g
      have hT : ys ++ List.replicate (xs.length - k) SemH0 = ys := by rw [show xs.length - k = 0 by omega]; simp
      simp only [hT]
      refine ret_shift (.joinO [0, 1] (Gs := [[_], _]) ⟨.inl ⟨_, rfl, .own⟩, .inl ⟨_, rfl, .o⟩, trivial⟩ rfl (G := semsO y ys) (.of_eq (by simp [semsO, nestO]))) ?_
      exact retw [0] ⟨y, ys, rfl, by rw [hy, List.take_of_length_le (by simpa using hge)], rfl⟩ ⟨.inl ⟨_, rfl, rfl⟩, trivial⟩ rfl ⟨rfl, trivial⟩ (fun _ => rfl)

set_option maxRecDepth 100000 in
theorem eqSemS_c (h h2 : Sl) (xs ys : List SemH) (w : World) (hh : At w [fR (semsO h xs), fR (semsO h2 ys)]) (hl : xs.length ≤ 1048576) (hb : ∀ x ∈ xs, Sem.small20 x.m) (hb2 : ∀ x ∈ ys, Sem.small20 x.m) :
    Calls Try.prog 51 #[h.val xs.length, h2.val ys.length] w (Ret w fun v L => v = .bool (decide (xs.map (·.m) = ys.map (·.m))) ∧ L = []) := by
  refine calls2 Try.func51 rfl tabOk w _ rfl _ rfl _ hh ⟨rfl, rfl, rfl, rfl, trivial⟩ _ _ (by decide) ?_
  refine CaseB.mk (fun g => ?_) (fun g => ?_)
  · have hne : xs.map (·.m) ≠ ys.map (·.m) := fun e => by
      have := congrArg List.length e
      simp at this g
      omega
    refine retw [] ⟨?_, rfl⟩ trivial rfl trivial (fun _ => rfl)
    simp [hne]
  · have hll : xs.length = ys.length := by simp at g; omega
    refine LoopW.mk ⟨{ k : Nat // k ≤ xs.length ∧ (xs.map (·.m)).take k = (ys.map (·.m)).take k },
      fun p => .mk [(0, .v (h.val xs.length)), (1, .v (h2.val ys.length)), (5, .v (.int .i64 p.1))] 0 0 [] [] [fR (semsO h xs), fR (semsO h2 ys)],
      fun p => xs.length - p.1, ⟨0, Nat.zero_le _, rfl⟩, ?_, ?_⟩
    · refine weak_mk [0, 1] ?_ ?_ ?_ ?_ ?_ rfl rfl
      · repeat (first | exact trivial | refine ⟨⟨_, rfl, (by first | exact .of rfl | exact .lit rfl | exact .of (by first | (rfl)) | exact .lit (by first | (rfl))), (by first | exact trivial | exact Nat.le_of_ble_eq_true rfl)⟩, ?_⟩)
      · repeat (first | exact trivial | refine ⟨⟨(by first | exact .head _ | exact .tail _ (.head _) | exact .tail _ (.tail _ (.head _)) | exact .tail _ (.tail _ (.tail _ (.head _))) | exact .tail _ (.tail _ (.tail _ (.tail _ (.head _)))) | exact .tail _ (.tail _ (.tail _ (.tail _ (.tail _ (.head _))))) | exact .tail _ (.tail _ (.tail _ (.tail _ (.tail _ (.tail _ (.head _)))))) | exact .tail _ (.tail _ (.tail _ (.tail _ (.tail _ (.tail _ (.tail _ (.head _))))))) | exact .tail _ (.tail _ (.tail _ (.tail _ (.tail _ (.tail _ (.tail _ (.tail _ (.head _)))))))) | exact .tail _ (.tail _ (.tail _ (.tail _ (.tail _ (.tail _ (.tail _ (.tail _ (.tail _ (.head _)))))))))), Nat.le_of_ble_eq_true rfl⟩, ?_⟩)
      · repeat (first | exact trivial | refine ⟨⟨_, rfl, (by first | exact .of rfl | exact .lit rfl | exact .of (by first | (rfl)) | exact .lit (by first | (rfl))), (by first | exact trivial | exact Nat.le_of_ble_eq_true rfl)⟩, ?_⟩)
      · repeat (first | exact trivial | refine ⟨⟨_, rfl⟩, ?_⟩)
      · repeat (first | exact trivial | refine ⟨.inl ⟨_, rfl, (by first | rfl | (rfl))⟩, ?_⟩ | refine ⟨.inr ⟨Nat.le_of_ble_eq_true rfl, rfl, rfl, rfl, rfl⟩, ?_⟩)
    · rintro ⟨k, hk, he⟩
      refine CaseB.mk (fun g2 => ?_) (fun g2 => ?_)
      · have hlt : k < xs.length := by simpa using g2
        have hlt2 : k < ys.length := by omega
        obtain ⟨q1, q2⟩ := take_eq_succ he (by simpa using hlt) (by simpa using hlt2)
        simp only [List.getElem_map] at q1 q2
        refine draw_start tabOk (by kernel_rfl) (by kernel_rfl) (by kernel_rfl) 200 [] [0, 1] [_, _] trivial trivial ⟨rfl, rfl, trivial⟩ rfl ?_
        refine d_idx (ti := tiOf tab) encSemH tabOk rfl rfl rfl rfl rfl ⟨rfl, rfl⟩ (rdVia 0 rfl (.ofR nest_h)) k rfl (by first | omega | (simp; done) | (simp; omega) | (unfold maxLen; omega) | (unfold maxLen; simp; done) | (unfold maxLen; simp; omega)) (fun ad => ?_)
        refine d_idx (ti := tiOf tab) encSemH tabOk rfl rfl rfl rfl rfl ⟨rfl, rfl⟩ (rdVia 1 rfl (.ofR nest_h)) k rfl (by first | omega | (simp; done) | (simp; omega) | (unfold maxLen; omega) | (unfold maxLen; simp; done) | (unfold maxLen; simp; omega)) (fun ad2 => ?_)
        refine d_call _ cl105 rfl rfl rfl rfl ⟨rfl, rfl⟩ (fun A w hW => eqSem_c _ _ _ _ w ⟨hW.get 0 rfl (.ofR (semsO_0 h xs k hlt)), hW.get 1 rfl (.ofR (semsO_0 h2 ys k hlt2)), trivial⟩ (hb _ (List.getElem_mem hlt)) (hb2 _ (List.getElem_mem hlt2))) ?_
        rintro v L ⟨rfl, rfl⟩
        refine CaseB.mk (fun g3 => ?_) (fun g3 => ?_)
        · have hne := q2 (by simpa using g3)
          refine retw [] ⟨?_, rfl⟩ trivial rfl trivial (fun _ => rfl)
          simp [hne]
        · have heq := q1 (by simpa using g3)
          have hw := e_succ k _ hlt (by omega)
          refine ⟨⟨k + 1, by omega, heq⟩, ?_, by simp; omega⟩
          refine weak_mk [0, 1] ?_ ?_ ?_ ?_ ?_ rfl rfl
          · repeat (first | exact trivial | refine ⟨⟨_, rfl, (by first | exact .of rfl | exact .lit rfl | exact .of (by first | ((exact congrArg (fun z => SV.v (Value.int .i64 z)) hw))) | exact .lit (by first | ((exact congrArg (fun z => SV.v (Value.int .i64 z)) hw)))), (by first | exact trivial | exact Nat.le_of_ble_eq_true rfl)⟩, ?_⟩)
          · repeat (first | exact trivial | refine ⟨⟨(by first | exact .head _ | exact .tail _ (.head _) | exact .tail _ (.tail _ (.head _)) | exact .tail _ (.tail _ (.tail _ (.head _))) | exact .tail _ (.tail _ (.tail _ (.tail _ (.head _)))) | exact .tail _ (.tail _ (.tail _ (.tail _ (.tail _ (.head _))))) | exact .tail _ (.tail _ (.tail _ (.tail _ (.tail _ (.tail _ (.head _)))))) | exact .tail _ (.tail _ (.tail _ (.tail _ (.tail _ (.tail _ (.tail _ (.head _))))))) | exact .tail _ (.tail _ (.tail _ (.tail _ (.tail _ (.tail _ (.tail _ (.tail _ (.head _)))))))) | exact .tail _ (.tail _ (.tail _ (.tail _ (.tail _ (.tail _ (.tail _ (.tail _ (.tail _ (.head _)))))))))), Nat.le_of_ble_eq_true rfl⟩, ?_⟩)
          · repeat (first | exact trivial | refine ⟨⟨_, rfl, (by first | exact .of rfl | exact .lit rfl | exact .of (by first | ((exact congrArg (fun z => SV.v (Value.int .i64 z)) hw))) | exact .lit (by first | ((exact congrArg (fun z => SV.v (Value.int .i64 z)) hw)))), (by first | exact trivial | exact Nat.le_of_ble_eq_true rfl)⟩, ?_⟩)
          · repeat (first | exact trivial | refine ⟨⟨_, rfl⟩, ?_⟩)
          · repeat (first | exact trivial | refine ⟨.inl ⟨_, rfl, (by first | rfl | ((exact congrArg (fun z => SV.v (Value.int .i64 z)) hw)))⟩, ?_⟩ | refine ⟨.inr ⟨Nat.le_of_ble_eq_true rfl, rfl, rfl, rfl, rfl⟩, ?_⟩)
      · have hge : xs.length ≤ k := by simpa using g2
        have heq : xs.map (·.m) = ys.map (·.m) := by rw [List.take_of_length_le (by simpa using hge), List.take_of_length_le (by simp; omega)] at he; exact he
        refine retw [] ⟨?_, rfl⟩ trivial rfl trivial (fun _ => rfl)
        simp [heq]

end Go.Proofs.Ytpopeaoklccgcaa
