/- FnStartProg: texts that its proof stands on, part 6. -/
import Derived.Test.YtjkkoonennpceaaQStartProge
namespace Go.Proofs.Ytjkkoonennpceaa

open Go Go.Sx Go.RowKit

set_option maxHeartbeats 40000000 in
set_option maxRecDepth 100000 in
theorem stateFits_c (p : ProgH) (s : StateH) (w : World) (h : At w [fR (progO p), fR (stateO s)]) (hp : p.pure.small20) (hs : s.pure.small20) :
    Calls Try.prog 9 #[progV p, stateV s] w (Tells w (Fits p.pure s.pure)) := by
  obtain ⟨b0, b1, b2, b3, b4, b5, b6, b7⟩ := hs
  have mlen : ∀ {α β : Type} (f : α → β) (xs : List α), (xs.map f).length = xs.length := fun f xs => by simp
  have lt : p.pure.threads.length = p.threads.length := mlen _ _
  have l2 : s.pure.sems.length = s.sems.length := mlen _ _
  have l3 : s.pure.onces.length = s.onces.length := mlen _ _
  have l4 : s.pure.groups.length = s.groups.length := mlen _ _
  have l5 : s.pure.barriers.length = s.barriers.length := mlen _ _
  have l6 : s.pure.chans.length = s.chans.length := mlen _ _
  refine calls2 Try.func9 rfl tabOk w _ rfl _ rfl _ h ⟨rfl, rfl, rfl, rfl, trivial⟩ _ _ (by decide) ?_
  refine stop_call _ cl8 rfl rfl rfl rfl ⟨rfl, rfl⟩ (fun A w hW => progValid_c p w ⟨hW.get 0 rfl (.refl _), trivial⟩ ⟨hp.1, hp.2.1, hp.2.2.1, hp.2.2.2.1⟩) ?_
  rintro v L ⟨b, rfl, hb, rfl⟩
  refine CaseB.mk (fun g => ?_) (fun g => ?_)
  · exact retw [] ⟨_, rfl, tno fun e => (by rw [hb.2 e.prog] at g; cases g), rfl⟩ trivial rfl trivial (fun _ => rfl)
  have ok : ProgOk p.pure := hb.1 (by simpa using g)
  refine CaseB.mk (fun g => ?_) (fun g => ?_)
  · have q : ¬ s.places.length = p.threads.length := by simp at g; omega
    exact retw [] ⟨_, rfl, tno fun e => q (by have := e.np; simpa [StateH.pure, ProgH.pure] using this), rfl⟩ trivial rfl trivial (fun _ => rfl)
  have c0 : s.places.length = p.threads.length := by simp at g; omega
  refine CaseB.mk (fun g => ?_) (fun g => ?_)
  · have q : ¬ s.status.length = p.threads.length := by simp at g; omega
    exact retw [] ⟨_, rfl, tno fun e => q (by have := e.ns; simpa [StateH.pure, ProgH.pure] using this), rfl⟩ trivial rfl trivial (fun _ => rfl)
  have c1 : s.status.length = p.threads.length := by simp at g; omega
  refine CaseB.mk (fun g => ?_) (fun g => ?_)
  · have q : ¬ s.sems.length = p.sems.length := by simp at g; omega
    exact retw [] ⟨_, rfl, tno fun e => q (by have := e.lsems; simpa [StateH.pure, ProgH.pure] using this), rfl⟩ trivial rfl trivial (fun _ => rfl)
  have c2 : s.sems.length = p.sems.length := by simp at g; omega
  refine CaseB.mk (fun g => ?_) (fun g => ?_)
  · have q : ¬ s.groups.length = p.groups.length := by simp at g; omega
    exact retw [] ⟨_, rfl, tno fun e => q (by have := e.lgroups; simpa [StateH.pure, ProgH.pure] using this), rfl⟩ trivial rfl trivial (fun _ => rfl)
  have c4 : s.groups.length = p.groups.length := by simp at g; omega
  refine CaseB.mk (fun g => ?_) (fun g => ?_)
  · have q : ¬ s.barriers.length = p.barriers.length := by simp at g; omega
    exact retw [] ⟨_, rfl, tno fun e => q (by have := e.lbarriers; simpa [StateH.pure, ProgH.pure] using this), rfl⟩ trivial rfl trivial (fun _ => rfl)
  have c5 : s.barriers.length = p.barriers.length := by simp at g; omega
  refine CaseB.mk (fun g => ?_) (fun g => ?_)
  · have q : ¬ s.chans.length = p.rooms.length := by simp at g; omega
    exact retw [] ⟨_, rfl, tno fun e => q (by have := e.lchans; simpa [StateH.pure, ProgH.pure] using this), rfl⟩ trivial rfl trivial (fun _ => rfl)
  have c6 : s.chans.length = p.rooms.length := by simp at g; omega
  refine CaseB.mk (fun g => ?_) (fun g => ?_)
  · have q : ¬ s.onces.length = 3 := by simp at g; omega
    exact retw [] ⟨_, rfl, tno fun e => q (by have := e.lonces; simpa [StateH.pure, ProgH.pure] using this), rfl⟩ trivial rfl trivial (fun _ => rfl)
  have c3 : s.onces.length = 3 := by simp at g; omega
  refine CaseB.mk (fun g => ?_) (fun g => ?_)
  · have q : ¬ s.said.length ≤ 64 := by have g' := of_decide_eq_true g; omega
    exact retw [] ⟨_, rfl, tno fun e => q e.lsaid, rfl⟩ trivial rfl trivial (fun _ => rfl)
  have c7 : s.said.length ≤ 64 := by have g' := of_decide_eq_false g; omega
  refine CaseB.mk (fun g => ?_) (fun g => ?_)
  · have q : ¬ 0 ≤ s.fault := by have g' := of_decide_eq_true g; omega
    exact retw [] ⟨_, rfl, tno fun e => q e.f0, rfl⟩ trivial rfl trivial (fun _ => rfl)
  have c8 : 0 ≤ s.fault := by have g' := of_decide_eq_false g; omega
  refine CaseB.mk (fun g => ?_) (fun g => ?_)
  · have q : ¬ s.fault ≤ 4 := by have g' := of_decide_eq_true g; omega
    exact retw [] ⟨_, rfl, tno fun e => q e.f4, rfl⟩ trivial rfl trivial (fun _ => rfl)
  have c9 : s.fault ≤ 4 := by have g' := of_decide_eq_false g; omega
  have n4 : p.threads.length ≤ 4 := by have := ok.n4; rwa [lt] at this
  have m0 : p.sems.length ≤ 3 := ok.sems.1
  have m1 : p.groups.length ≤ 3 := ok.groups.1
  have m2 : p.barriers.length ≤ 3 := ok.barriers.1
  have m3 : p.rooms.length ≤ 3 := ok.rooms.1
  refine LoopW.mk ⟨{ k : Nat // k ≤ s.sems.length ∧ ∀ (i : Nat) x, i < k → s.pure.sems[i]? = some x → SemOk x ∧ p.pure.sems[i]? = some x.limit },
    fun k => .mk [(2, .p 0 0), (3, .p 1 0), (106, .v (s.h2.val s.sems.length)), (107, .v (.int .i64 (s.sems.length : Int))), (108, .v (.int .i64 (k.1 : Int)))] 2 0 [(0, 26, 5), (1, 34, 9)] [((0, 0), .v (p.h0.val p.sems.length)), ((0, 1), .v (p.h1.val p.groups.length)), ((0, 2), .v (p.h2.val p.barriers.length)), ((0, 3), .v (p.h3.val p.rooms.length)), ((0, 4), .v (p.h4.val p.threads.length)), ((1, 0), .v (s.h0.val s.places.length)), ((1, 1), .v (s.h1.val s.status.length)), ((1, 2), .v (s.h2.val s.sems.length)), ((1, 3), .v (s.h3.val s.onces.length)), ((1, 4), .v (s.h4.val s.groups.length)), ((1, 5), .v (s.h5.val s.barriers.length)), ((1, 6), .v (s.h6.val s.chans.length)), ((1, 7), .v (s.h7.val s.said.length)), ((1, 8), .v (.int .i64 s.fault))] [fR (progO p), fR (stateO s)],
    fun k => s.sems.length - k.1, ⟨0, Nat.zero_le _, fun i x hi => by omega⟩, ?_, ?_⟩
  · refine weak_mk [0, 1] ?_ ?_ ?_ ?_ ?_ rfl rfl
    · repeat (first | exact trivial | refine ⟨⟨_, rfl, (by first | exact .of rfl | exact .lit rfl | exact .of (by first | (rfl)) | exact .lit (by first | (rfl))), (by first | exact trivial | exact Nat.le_of_ble_eq_true rfl | exact small1 rfl)⟩, ?_⟩)
    · repeat (first | exact trivial | refine ⟨⟨(by first | exact .head _ | exact .tail _ (.head _) | exact .tail _ (.tail _ (.head _)) | exact .tail _ (.tail _ (.tail _ (.head _))) | exact .tail _ (.tail _ (.tail _ (.tail _ (.head _)))) | exact .tail _ (.tail _ (.tail _ (.tail _ (.tail _ (.head _))))) | exact .tail _ (.tail _ (.tail _ (.tail _ (.tail _ (.tail _ (.head _)))))) | exact .tail _ (.tail _ (.tail _ (.tail _ (.tail _ (.tail _ (.tail _ (.head _))))))) | exact .tail _ (.tail _ (.tail _ (.tail _ (.tail _ (.tail _ (.tail _ (.tail _ (.head _)))))))) | exact .tail _ (.tail _ (.tail _ (.tail _ (.tail _ (.tail _ (.tail _ (.tail _ (.tail _ (.head _)))))))))), Nat.le_of_ble_eq_true rfl⟩, ?_⟩)
    · repeat (first | exact trivial | refine ⟨⟨_, rfl, (by first | exact .of rfl | exact .lit rfl | exact .of (by first | (rfl)) | exact .lit (by first | (rfl))), (by first | exact trivial | exact Nat.le_of_ble_eq_true rfl | exact small1 rfl)⟩, ?_⟩)
    · repeat (first | exact trivial | refine ⟨⟨_, rfl⟩, ?_⟩)
    · repeat (first | exact trivial | refine ⟨.inl ⟨_, rfl, (by first | rfl | (rfl))⟩, ?_⟩ | refine ⟨.inr ⟨Nat.le_of_ble_eq_true rfl, rfl, rfl, rfl, rfl⟩, ?_⟩)
  rintro ⟨k, hk, hinv⟩
  refine CaseB.mk (fun g => ?_) (fun g => ?_)
  · have hlt : k < s.sems.length := by simpa using g
    have hw := e_succ k _ hlt (by omega)
    have hat : s.pure.sems[k]? = some (s.sems[k]).m := by simp [StateH.pure, hlt]
    have hsm := (allS_map b2).2 _ (List.getElem_mem hlt)
    unfold Sem.small20 at hsm
    refine stop_idx encSemH tabOk rfl rfl rfl rfl rfl ⟨rfl, rfl⟩ (rdVia 1 rfl (.trans (.R_R (stateO_sems s)) (.ofR nest_h))) k rfl (by first | omega | (simp; done) | (simp; omega) | (unfold maxLen; omega) | (unfold maxLen; simp; done) | (unfold maxLen; simp; omega)) (fun ad => ?_)
    refine draw_start tabOk (by kernel_rfl) (by kernel_rfl) (by kernel_rfl) 200 [((0, 0), .v (p.h0.val p.sems.length)), ((2, 0), .v (.int .i64 (s.sems[k]).m.free)), ((2, 1), .v (.int .i64 (s.sems[k]).m.limit)), ((2, 2), .v ((s.sems[k]).q.val (s.sems[k]).m.queue.length))] [0] [_] ⟨⟨_, rfl, rfl, (by first | exact trivial | exact Nat.le_of_ble_eq_true rfl)⟩, ⟨_, rfl, rfl, (by first | exact trivial | exact Nat.le_of_ble_eq_true rfl)⟩, ⟨_, rfl, rfl, (by first | exact trivial | exact Nat.le_of_ble_eq_true rfl)⟩, ⟨_, rfl, rfl, (by first | exact trivial | exact Nat.le_of_ble_eq_true rfl)⟩, trivial⟩ ⟨⟨_, rfl⟩, ⟨_, rfl⟩, ⟨_, rfl⟩, ⟨_, rfl⟩, trivial⟩ ⟨rfl, trivial⟩ rfl ?_
    refine d_call _ cl31 rfl rfl rfl rfl ⟨rfl, rfl⟩ (fun A w hW => semValid_c _ _ w ⟨hW.get 1 rfl (.trans (.R_R (stateO_sems s)) (.ofR (semsO_0 _ _ k hlt))), trivial⟩ (by omega)) ?_
    rintro v L ⟨bb, rfl, hbb, rfl⟩
    refine CaseB.mk (fun g => ?_) (fun g => ?_)
    · exact retw [] ⟨_, rfl, tno fun e => (by rw [hbb.2 ((e.sems k _ hat).1)] at g; cases g), rfl⟩ trivial rfl trivial (fun _ => rfl)
    have q1 := hbb.1 (by simpa using g)
    have hlp : k < p.sems.length := by omega
    have hpat : p.pure.sems[k]? = some p.sems[k] := by simp [ProgH.pure, hlp]
    refine d_idx (ti := tiOf tab) encInt tabOk rfl rfl rfl rfl rfl ⟨rfl, rfl⟩ (rdVia 0 rfl (.ofR (progO_sems p))) k rfl (by first | omega | (simp; done) | (simp; omega) | (unfold maxLen; omega) | (unfold maxLen; simp; done) | (unfold maxLen; simp; omega)) (fun ad2 => ?_)
    refine CaseB.mk (fun g => ?_) (fun g => ?_)
    · have q : ¬ (s.sems[k]).m.limit = p.sems[k] := by simpa using g
      exact retw [] ⟨_, rfl, tno fun e => q (by have := (e.sems k _ hat).2; rw [hpat] at this; injection this with this; exact this.symm), rfl⟩ trivial rfl trivial (fun _ => rfl)
    have q2 : (s.sems[k]).m.limit = p.sems[k] := by simpa using g
    refine ⟨⟨k + 1, by omega, fun i x hi hx => ?_⟩, ?_, by simp only; omega⟩
    · by_cases e : i < k
      · exact hinv i x e hx
      · obtain rfl : i = k := by omega
        rw [hat] at hx
        injection hx with hx
        subst hx
        exact ⟨q1, by rw [hpat, q2]⟩
    · refine weak_mk [0, 1] ?_ ?_ ?_ ?_ ?_ rfl rfl
      · repeat (first | exact trivial | refine ⟨⟨_, rfl, (by first | exact .of rfl | exact .lit rfl | exact .of (by first | ((exact congrArg (fun z => SV.v (Value.int .i64 z)) hw))) | exact .lit (by first | ((exact congrArg (fun z => SV.v (Value.int .i64 z)) hw)))), (by first | exact trivial | exact Nat.le_of_ble_eq_true rfl | exact small1 rfl)⟩, ?_⟩)
      · repeat (first | exact trivial | refine ⟨⟨(by first | exact .head _ | exact .tail _ (.head _) | exact .tail _ (.tail _ (.head _)) | exact .tail _ (.tail _ (.tail _ (.head _))) | exact .tail _ (.tail _ (.tail _ (.tail _ (.head _)))) | exact .tail _ (.tail _ (.tail _ (.tail _ (.tail _ (.head _))))) | exact .tail _ (.tail _ (.tail _ (.tail _ (.tail _ (.tail _ (.head _)))))) | exact .tail _ (.tail _ (.tail _ (.tail _ (.tail _ (.tail _ (.tail _ (.head _))))))) | exact .tail _ (.tail _ (.tail _ (.tail _ (.tail _ (.tail _ (.tail _ (.tail _ (.head _)))))))) | exact .tail _ (.tail _ (.tail _ (.tail _ (.tail _ (.tail _ (.tail _ (.tail _ (.tail _ (.head _)))))))))), Nat.le_of_ble_eq_true rfl⟩, ?_⟩)
      · repeat (first | exact trivial | refine ⟨⟨_, rfl, (by first | exact .of rfl | exact .lit rfl | exact .of (by first | ((exact congrArg (fun z => SV.v (Value.int .i64 z)) hw))) | exact .lit (by first | ((exact congrArg (fun z => SV.v (Value.int .i64 z)) hw)))), (by first | exact trivial | exact Nat.le_of_ble_eq_true rfl | exact small1 rfl)⟩, ?_⟩)
      · repeat (first | exact trivial | refine ⟨⟨_, rfl⟩, ?_⟩)
      · repeat (first | exact trivial | refine ⟨.inl ⟨_, rfl, (by first | rfl | ((exact congrArg (fun z => SV.v (Value.int .i64 z)) hw)))⟩, ?_⟩ | refine ⟨.inr ⟨Nat.le_of_ble_eq_true rfl, rfl, rfl, rfl, rfl⟩, ?_⟩)
  have hge : s.sems.length ≤ k := by simpa using g
  have vsems : ∀ (i : Nat) x, s.pure.sems[i]? = some x → SemOk x ∧ p.pure.sems[i]? = some x.limit := fun i x hx => hinv i x (by have := (List.getElem?_eq_some_iff.1 hx).1; omega) hx
  refine LoopW.mk ⟨{ k : Nat // k ≤ s.groups.length ∧ ∀ (i : Nat) x, i < k → s.pure.groups[i]? = some x → GroupOk x },
    fun k => .mk [(2, .p 0 0), (3, .p 1 0), (128, .v (s.h4.val s.groups.length)), (129, .v (.int .i64 (s.groups.length : Int))), (130, .v (.int .i64 (k.1 : Int)))] 2 0 [(0, 26, 5), (1, 34, 9)] [((0, 0), .v (p.h0.val p.sems.length)), ((0, 1), .v (p.h1.val p.groups.length)), ((0, 2), .v (p.h2.val p.barriers.length)), ((0, 3), .v (p.h3.val p.rooms.length)), ((0, 4), .v (p.h4.val p.threads.length)), ((1, 0), .v (s.h0.val s.places.length)), ((1, 1), .v (s.h1.val s.status.length)), ((1, 2), .v (s.h2.val s.sems.length)), ((1, 3), .v (s.h3.val s.onces.length)), ((1, 4), .v (s.h4.val s.groups.length)), ((1, 5), .v (s.h5.val s.barriers.length)), ((1, 6), .v (s.h6.val s.chans.length)), ((1, 7), .v (s.h7.val s.said.length)), ((1, 8), .v (.int .i64 s.fault))] [fR (progO p), fR (stateO s)],
    fun k => s.groups.length - k.1, ⟨0, Nat.zero_le _, fun i x hi => by omega⟩, ?_, ?_⟩
  · refine weak_mk [0, 1] ?_ ?_ ?_ ?_ ?_ rfl rfl
    · repeat (first | exact trivial | refine ⟨⟨_, rfl, (by first | exact .of rfl | exact .lit rfl | exact .of (by first | (rfl)) | exact .lit (by first | (rfl))), (by first | exact trivial | exact Nat.le_of_ble_eq_true rfl | exact small1 rfl)⟩, ?_⟩)
    · repeat (first | exact trivial | refine ⟨⟨(by first | exact .head _ | exact .tail _ (.head _) | exact .tail _ (.tail _ (.head _)) | exact .tail _ (.tail _ (.tail _ (.head _))) | exact .tail _ (.tail _ (.tail _ (.tail _ (.head _)))) | exact .tail _ (.tail _ (.tail _ (.tail _ (.tail _ (.head _))))) | exact .tail _ (.tail _ (.tail _ (.tail _ (.tail _ (.tail _ (.head _)))))) | exact .tail _ (.tail _ (.tail _ (.tail _ (.tail _ (.tail _ (.tail _ (.head _))))))) | exact .tail _ (.tail _ (.tail _ (.tail _ (.tail _ (.tail _ (.tail _ (.tail _ (.head _)))))))) | exact .tail _ (.tail _ (.tail _ (.tail _ (.tail _ (.tail _ (.tail _ (.tail _ (.tail _ (.head _)))))))))), Nat.le_of_ble_eq_true rfl⟩, ?_⟩)
    · repeat (first | exact trivial | refine ⟨⟨_, rfl, (by first | exact .of rfl | exact .lit rfl | exact .of (by first | (rfl)) | exact .lit (by first | (rfl))), (by first | exact trivial | exact Nat.le_of_ble_eq_true rfl | exact small1 rfl)⟩, ?_⟩)
    · repeat (first | exact trivial | refine ⟨⟨_, rfl⟩, ?_⟩)
    · repeat (first | exact trivial | refine ⟨.inl ⟨_, rfl, (by first | rfl | (rfl))⟩, ?_⟩ | refine ⟨.inr ⟨Nat.le_of_ble_eq_true rfl, rfl, rfl, rfl, rfl⟩, ?_⟩)
  rintro ⟨k, hk, hinv⟩
  refine CaseB.mk (fun g => ?_) (fun g => ?_)
  · have hlt : k < s.groups.length := by simpa using g
    have hw := e_succ k _ hlt (by omega)
    have hat : s.pure.groups[k]? = some (s.groups[k]).m := by simp [StateH.pure, hlt]
    have hsm := (allS_map b4).2 _ (List.getElem_mem hlt)
    unfold Group.small20 at hsm
    refine stop_idx encGroupH tabOk rfl rfl rfl rfl rfl ⟨rfl, rfl⟩ (rdVia 1 rfl (.trans (.R_R (stateO_groups s)) (.ofR nest_h))) k rfl (by first | omega | (simp; done) | (simp; omega) | (unfold maxLen; omega) | (unfold maxLen; simp; done) | (unfold maxLen; simp; omega)) (fun ad => ?_)
    refine stop_call _ cl32 rfl rfl rfl rfl ⟨rfl, rfl⟩ (fun A w hW => groupValid_c _ _ w ⟨hW.get 1 rfl (.trans (.R_R (stateO_groups s)) (.ofR (groupsO_0 _ _ k hlt))), trivial⟩ (by omega)) ?_
    rintro v L ⟨bb, rfl, hbb, rfl⟩
    refine CaseB.mk (fun g => ?_) (fun g => ?_)
    · exact retw [] ⟨_, rfl, tno fun e => (by rw [hbb.2 (e.groups _ (List.mem_of_getElem? hat))] at g; cases g), rfl⟩ trivial rfl trivial (fun _ => rfl)
    have q1 := hbb.1 (by simpa using g)
    refine ⟨⟨k + 1, by omega, fun i x hi hx => ?_⟩, ?_, by simp only; omega⟩
    · by_cases e : i < k
      · exact hinv i x e hx
      · obtain rfl : i = k := by omega
        rw [hat] at hx
        injection hx with hx
        subst hx
        exact q1
    · refine weak_mk [0, 1] ?_ ?_ ?_ ?_ ?_ rfl rfl
      · repeat (first | exact trivial | refine ⟨⟨_, rfl, (by first | exact .of rfl | exact .lit rfl | exact .of (by first | ((exact congrArg (fun z => SV.v (Value.int .i64 z)) hw))) | exact .lit (by first | ((exact congrArg (fun z => SV.v (Value.int .i64 z)) hw)))), (by first | exact trivial | exact Nat.le_of_ble_eq_true rfl | exact small1 rfl)⟩, ?_⟩)
      · repeat (first | exact trivial | refine ⟨⟨(by first | exact .head _ | exact .tail _ (.head _) | exact .tail _ (.tail _ (.head _)) | exact .tail _ (.tail _ (.tail _ (.head _))) | exact .tail _ (.tail _ (.tail _ (.tail _ (.head _)))) | exact .tail _ (.tail _ (.tail _ (.tail _ (.tail _ (.head _))))) | exact .tail _ (.tail _ (.tail _ (.tail _ (.tail _ (.tail _ (.head _)))))) | exact .tail _ (.tail _ (.tail _ (.tail _ (.tail _ (.tail _ (.tail _ (.head _))))))) | exact .tail _ (.tail _ (.tail _ (.tail _ (.tail _ (.tail _ (.tail _ (.tail _ (.head _)))))))) | exact .tail _ (.tail _ (.tail _ (.tail _ (.tail _ (.tail _ (.tail _ (.tail _ (.tail _ (.head _)))))))))), Nat.le_of_ble_eq_true rfl⟩, ?_⟩)
      · repeat (first | exact trivial | refine ⟨⟨_, rfl, (by first | exact .of rfl | exact .lit rfl | exact .of (by first | ((exact congrArg (fun z => SV.v (Value.int .i64 z)) hw))) | exact .lit (by first | ((exact congrArg (fun z => SV.v (Value.int .i64 z)) hw)))), (by first | exact trivial | exact Nat.le_of_ble_eq_true rfl | exact small1 rfl)⟩, ?_⟩)
      · repeat (first | exact trivial | refine ⟨⟨_, rfl⟩, ?_⟩)
      · repeat (first | exact trivial | refine ⟨.inl ⟨_, rfl, (by first | rfl | ((exact congrArg (fun z => SV.v (Value.int .i64 z)) hw)))⟩, ?_⟩ | refine ⟨.inr ⟨Nat.le_of_ble_eq_true rfl, rfl, rfl, rfl, rfl⟩, ?_⟩)
  have hge : s.groups.length ≤ k := by simpa using g
  have vgroups : ∀ (i : Nat) x, s.pure.groups[i]? = some x → GroupOk x := fun i x hx => hinv i x (by have := (List.getElem?_eq_some_iff.1 hx).1; omega) hx
  refine LoopW.mk ⟨{ k : Nat // k ≤ s.barriers.length ∧ ∀ (i : Nat) x, i < k → s.pure.barriers[i]? = some x → BarrierOk x ∧ p.pure.barriers[i]? = some x.parties },
    fun k => .mk [(2, .p 0 0), (3, .p 1 0), (139, .v (s.h5.val s.barriers.length)), (140, .v (.int .i64 (s.barriers.length : Int))), (141, .v (.int .i64 (k.1 : Int)))] 2 0 [(0, 26, 5), (1, 34, 9)] [((0, 0), .v (p.h0.val p.sems.length)), ((0, 1), .v (p.h1.val p.groups.length)), ((0, 2), .v (p.h2.val p.barriers.length)), ((0, 3), .v (p.h3.val p.rooms.length)), ((0, 4), .v (p.h4.val p.threads.length)), ((1, 0), .v (s.h0.val s.places.length)), ((1, 1), .v (s.h1.val s.status.length)), ((1, 2), .v (s.h2.val s.sems.length)), ((1, 3), .v (s.h3.val s.onces.length)), ((1, 4), .v (s.h4.val s.groups.length)), ((1, 5), .v (s.h5.val s.barriers.length)), ((1, 6), .v (s.h6.val s.chans.length)), ((1, 7), .v (s.h7.val s.said.length)), ((1, 8), .v (.int .i64 s.fault))] [fR (progO p), fR (stateO s)],
    fun k => s.barriers.length - k.1, ⟨0, Nat.zero_le _, fun i x hi => by omega⟩, ?_, ?_⟩
  · refine weak_mk [0, 1] ?_ ?_ ?_ ?_ ?_ rfl rfl
    · repeat (first | exact trivial | refine ⟨⟨_, rfl, (by first | exact .of rfl | exact .lit rfl | exact .of (by first | (rfl)) | exact .lit (by first | (rfl))), (by first | exact trivial | exact Nat.le_of_ble_eq_true rfl | exact small1 rfl)⟩, ?_⟩)
    · repeat (first | exact trivial | refine ⟨⟨(by first | exact .head _ | exact .tail _ (.head _) | exact .tail _ (.tail _ (.head _)) | exact .tail _ (.tail _ (.tail _ (.head _))) | exact .tail _ (.tail _ (.tail _ (.tail _ (.head _)))) | exact .tail _ (.tail _ (.tail _ (.tail _ (.tail _ (.head _))))) | exact .tail _ (.tail _ (.tail _ (.tail _ (.tail _ (.tail _ (.head _)))))) | exact .tail _ (.tail _ (.tail _ (.tail _ (.tail _ (.tail _ (.tail _ (.head _))))))) | exact .tail _ (.tail _ (.tail _ (.tail _ (.tail _ (.tail _ (.tail _ (.tail _ (.head _)))))))) | exact .tail _ (.tail _ (.tail _ (.tail _ (.tail _ (.tail _ (.tail _ (.tail _ (.tail _ (.head _)))))))))), Nat.le_of_ble_eq_true rfl⟩, ?_⟩)
    · repeat (first | exact trivial | refine ⟨⟨_, rfl, (by first | exact .of rfl | exact .lit rfl | exact .of (by first | (rfl)) | exact .lit (by first | (rfl))), (by first | exact trivial | exact Nat.le_of_ble_eq_true rfl | exact small1 rfl)⟩, ?_⟩)
    · repeat (first | exact trivial | refine ⟨⟨_, rfl⟩, ?_⟩)
    · repeat (first | exact trivial | refine ⟨.inl ⟨_, rfl, (by first | rfl | (rfl))⟩, ?_⟩ | refine ⟨.inr ⟨Nat.le_of_ble_eq_true rfl, rfl, rfl, rfl, rfl⟩, ?_⟩)
  rintro ⟨k, hk, hinv⟩
  refine CaseB.mk (fun g => ?_) (fun g => ?_)
  · have hlt : k < s.barriers.length := by simpa using g
    have hw := e_succ k _ hlt (by omega)
    have hat : s.pure.barriers[k]? = some (s.barriers[k]).m := by simp [StateH.pure, hlt]
    have hsm := (allS_map b5).2 _ (List.getElem_mem hlt)
    unfold Barrier.small20 at hsm
    refine stop_idx encBarrierH tabOk rfl rfl rfl rfl rfl ⟨rfl, rfl⟩ (rdVia 1 rfl (.trans (.R_R (stateO_barriers s)) (.ofR nest_h))) k rfl (by first | omega | (simp; done) | (simp; omega) | (unfold maxLen; omega) | (unfold maxLen; simp; done) | (unfold maxLen; simp; omega)) (fun ad => ?_)
    refine draw_start tabOk (by kernel_rfl) (by kernel_rfl) (by kernel_rfl) 200 [((0, 2), .v (p.h2.val p.barriers.length)), ((2, 0), .v (.int .i64 (s.barriers[k]).m.parties)), ((2, 1), .v (.int .i64 (s.barriers[k]).m.round)), ((2, 2), .v ((s.barriers[k]).q.val (s.barriers[k]).m.waits.length))] [0] [_] ⟨⟨_, rfl, rfl, (by first | exact trivial | exact Nat.le_of_ble_eq_true rfl)⟩, ⟨_, rfl, rfl, (by first | exact trivial | exact Nat.le_of_ble_eq_true rfl)⟩, ⟨_, rfl, rfl, (by first | exact trivial | exact Nat.le_of_ble_eq_true rfl)⟩, ⟨_, rfl, rfl, (by first | exact trivial | exact Nat.le_of_ble_eq_true rfl)⟩, trivial⟩ ⟨⟨_, rfl⟩, ⟨_, rfl⟩, ⟨_, rfl⟩, ⟨_, rfl⟩, trivial⟩ ⟨rfl, trivial⟩ rfl ?_
    refine d_call _ cl33 rfl rfl rfl rfl ⟨rfl, rfl⟩ (fun A w hW => barrierValid_c _ _ w ⟨hW.get 1 rfl (.trans (.R_R (stateO_barriers s)) (.ofR (barriersO_0 _ _ k hlt))), trivial⟩ (by omega)) ?_
    rintro v L ⟨bb, rfl, hbb, rfl⟩
    refine CaseB.mk (fun g => ?_) (fun g => ?_)
    · exact retw [] ⟨_, rfl, tno fun e => (by rw [hbb.2 ((e.barriers k _ hat).1)] at g; cases g), rfl⟩ trivial rfl trivial (fun _ => rfl)
    have q1 := hbb.1 (by simpa using g)
    have hlp : k < p.barriers.length := by omega
    have hpat : p.pure.barriers[k]? = some p.barriers[k] := by simp [ProgH.pure, hlp]
    refine d_idx (ti := tiOf tab) encInt tabOk rfl rfl rfl rfl rfl ⟨rfl, rfl⟩ (rdVia 0 rfl (.ofR (progO_barriers p))) k rfl (by first | omega | (simp; done) | (simp; omega) | (unfold maxLen; omega) | (unfold maxLen; simp; done) | (unfold maxLen; simp; omega)) (fun ad2 => ?_)
    refine CaseB.mk (fun g => ?_) (fun g => ?_)
    · have q : ¬ (s.barriers[k]).m.parties = p.barriers[k] := by simpa using g
      exact retw [] ⟨_, rfl, tno fun e => q (by have := (e.barriers k _ hat).2; rw [hpat] at this; injection this with this; exact this.symm), rfl⟩ trivial rfl trivial (fun _ => rfl)
    have q2 : (s.barriers[k]).m.parties = p.barriers[k] := by simpa using g
    refine ⟨⟨k + 1, by omega, fun i x hi hx => ?_⟩, ?_, by simp only; omega⟩
    · by_cases e : i < k
      · exact hinv i x e hx
      · obtain rfl : i = k := by omega
        rw [hat] at hx
        injection hx with hx
        subst hx
        exact ⟨q1, by rw [hpat, q2]⟩
    · refine weak_mk [0, 1] ?_ ?_ ?_ ?_ ?_ rfl rfl
      · repeat (first | exact trivial | refine ⟨⟨_, rfl, (by first | exact .of rfl | exact .lit rfl | exact .of (by first | ((exact congrArg (fun z => SV.v (Value.int .i64 z)) hw))) | exact .lit (by first | ((exact congrArg (fun z => SV.v (Value.int .i64 z)) hw)))), (by first | exact trivial | exact Nat.le_of_ble_eq_true rfl | exact small1 rfl)⟩, ?_⟩)
      · repeat (first | exact trivial | refine ⟨⟨(by first | exact .head _ | exact .tail _ (.head _) | exact .tail _ (.tail _ (.head _)) | exact .tail _ (.tail _ (.tail _ (.head _))) | exact .tail _ (.tail _ (.tail _ (.tail _ (.head _)))) | exact .tail _ (.tail _ (.tail _ (.tail _ (.tail _ (.head _))))) | exact .tail _ (.tail _ (.tail _ (.tail _ (.tail _ (.tail _ (.head _)))))) | exact .tail _ (.tail _ (.tail _ (.tail _ (.tail _ (.tail _ (.tail _ (.head _))))))) | exact .tail _ (.tail _ (.tail _ (.tail _ (.tail _ (.tail _ (.tail _ (.tail _ (.head _)))))))) | exact .tail _ (.tail _ (.tail _ (.tail _ (.tail _ (.tail _ (.tail _ (.tail _ (.tail _ (.head _)))))))))), Nat.le_of_ble_eq_true rfl⟩, ?_⟩)
      · repeat (first | exact trivial | refine ⟨⟨_, rfl, (by first | exact .of rfl | exact .lit rfl | exact .of (by first | ((exact congrArg (fun z => SV.v (Value.int .i64 z)) hw))) | exact .lit (by first | ((exact congrArg (fun z => SV.v (Value.int .i64 z)) hw)))), (by first | exact trivial | exact Nat.le_of_ble_eq_true rfl | exact small1 rfl)⟩, ?_⟩)
      · repeat (first | exact trivial | refine ⟨⟨_, rfl⟩, ?_⟩)
      · repeat (first | exact trivial | refine ⟨.inl ⟨_, rfl, (by first | rfl | ((exact congrArg (fun z => SV.v (Value.int .i64 z)) hw)))⟩, ?_⟩ | refine ⟨.inr ⟨Nat.le_of_ble_eq_true rfl, rfl, rfl, rfl, rfl⟩, ?_⟩)
  have hge : s.barriers.length ≤ k := by simpa using g
  have vbarriers : ∀ (i : Nat) x, s.pure.barriers[i]? = some x → BarrierOk x ∧ p.pure.barriers[i]? = some x.parties := fun i x hx => hinv i x (by have := (List.getElem?_eq_some_iff.1 hx).1; omega) hx
  refine LoopW.mk ⟨{ k : Nat // k ≤ s.chans.length ∧ ∀ (i : Nat) x, i < k → s.pure.chans[i]? = some x → x.valid = true ∧ p.pure.rooms[i]? = some x.room },
    fun k => .mk [(2, .p 0 0), (3, .p 1 0), (161, .v (s.h6.val s.chans.length)), (162, .v (.int .i64 (s.chans.length : Int))), (163, .v (.int .i64 (k.1 : Int)))] 2 0 [(0, 26, 5), (1, 34, 9)] [((0, 0), .v (p.h0.val p.sems.length)), ((0, 1), .v (p.h1.val p.groups.length)), ((0, 2), .v (p.h2.val p.barriers.length)), ((0, 3), .v (p.h3.val p.rooms.length)), ((0, 4), .v (p.h4.val p.threads.length)), ((1, 0), .v (s.h0.val s.places.length)), ((1, 1), .v (s.h1.val s.status.length)), ((1, 2), .v (s.h2.val s.sems.length)), ((1, 3), .v (s.h3.val s.onces.length)), ((1, 4), .v (s.h4.val s.groups.length)), ((1, 5), .v (s.h5.val s.barriers.length)), ((1, 6), .v (s.h6.val s.chans.length)), ((1, 7), .v (s.h7.val s.said.length)), ((1, 8), .v (.int .i64 s.fault))] [fR (progO p), fR (stateO s)],
    fun k => s.chans.length - k.1, ⟨0, Nat.zero_le _, fun i x hi => by omega⟩, ?_, ?_⟩
  · refine weak_mk [0, 1] ?_ ?_ ?_ ?_ ?_ rfl rfl
    · repeat (first | exact trivial | refine ⟨⟨_, rfl, (by first | exact .of rfl | exact .lit rfl | exact .of (by first | (rfl)) | exact .lit (by first | (rfl))), (by first | exact trivial | exact Nat.le_of_ble_eq_true rfl | exact small1 rfl)⟩, ?_⟩)
    · repeat (first | exact trivial | refine ⟨⟨(by first | exact .head _ | exact .tail _ (.head _) | exact .tail _ (.tail _ (.head _)) | exact .tail _ (.tail _ (.tail _ (.head _))) | exact .tail _ (.tail _ (.tail _ (.tail _ (.head _)))) | exact .tail _ (.tail _ (.tail _ (.tail _ (.tail _ (.head _))))) | exact .tail _ (.tail _ (.tail _ (.tail _ (.tail _ (.tail _ (.head _)))))) | exact .tail _ (.tail _ (.tail _ (.tail _ (.tail _ (.tail _ (.tail _ (.head _))))))) | exact .tail _ (.tail _ (.tail _ (.tail _ (.tail _ (.tail _ (.tail _ (.tail _ (.head _)))))))) | exact .tail _ (.tail _ (.tail _ (.tail _ (.tail _ (.tail _ (.tail _ (.tail _ (.tail _ (.head _)))))))))), Nat.le_of_ble_eq_true rfl⟩, ?_⟩)
    · repeat (first | exact trivial | refine ⟨⟨_, rfl, (by first | exact .of rfl | exact .lit rfl | exact .of (by first | (rfl)) | exact .lit (by first | (rfl))), (by first | exact trivial | exact Nat.le_of_ble_eq_true rfl | exact small1 rfl)⟩, ?_⟩)
    · repeat (first | exact trivial | refine ⟨⟨_, rfl⟩, ?_⟩)
    · repeat (first | exact trivial | refine ⟨.inl ⟨_, rfl, (by first | rfl | (rfl))⟩, ?_⟩ | refine ⟨.inr ⟨Nat.le_of_ble_eq_true rfl, rfl, rfl, rfl, rfl⟩, ?_⟩)
  rintro ⟨k, hk, hinv⟩
  refine CaseB.mk (fun g => ?_) (fun g => ?_)
  · have hlt : k < s.chans.length := by simpa using g
    have hw := e_succ k _ hlt (by omega)
    have hat : s.pure.chans[k]? = some (s.chans[k]).m := by simp [StateH.pure, hlt]
    have hsm := (allS_map b6).2 _ (List.getElem_mem hlt)
    unfold Chan.small20 at hsm
    refine stop_idx encChanH tabOk rfl rfl rfl rfl rfl ⟨rfl, rfl⟩ (rdVia 1 rfl (.trans (.R_R (stateO_chans s)) (.ofR nest_h))) k rfl (by first | omega | (simp; done) | (simp; omega) | (unfold maxLen; omega) | (unfold maxLen; simp; done) | (unfold maxLen; simp; omega)) (fun ad => ?_)
    refine draw_start tabOk (by kernel_rfl) (by kernel_rfl) (by kernel_rfl) 200 [((0, 3), .v (p.h3.val p.rooms.length)), ((2, 0), .v (.int .i64 (s.chans[k]).m.room)), ((2, 1), .v ((s.chans[k]).q0.val (s.chans[k]).m.items.length)), ((2, 2), .v ((s.chans[k]).q1.val (s.chans[k]).m.senders.length)), ((2, 3), .v ((s.chans[k]).q2.val (s.chans[k]).m.getters.length)), ((2, 4), .v (.bool (s.chans[k]).m.closed))] [0] [_] ⟨⟨_, rfl, rfl, (by first | exact trivial | exact Nat.le_of_ble_eq_true rfl)⟩, ⟨_, rfl, rfl, (by first | exact trivial | exact Nat.le_of_ble_eq_true rfl)⟩, ⟨_, rfl, rfl, (by first | exact trivial | exact Nat.le_of_ble_eq_true rfl)⟩, ⟨_, rfl, rfl, (by first | exact trivial | exact Nat.le_of_ble_eq_true rfl)⟩, ⟨_, rfl, rfl, (by first | exact trivial | exact Nat.le_of_ble_eq_true rfl)⟩, ⟨_, rfl, rfl, (by first | exact trivial | exact Nat.le_of_ble_eq_true rfl)⟩, trivial⟩ ⟨⟨_, rfl⟩, ⟨_, rfl⟩, ⟨_, rfl⟩, ⟨_, rfl⟩, ⟨_, rfl⟩, ⟨_, rfl⟩, trivial⟩ ⟨rfl, trivial⟩ rfl ?_
    refine d_call _ cl34 rfl rfl rfl rfl ⟨rfl, rfl⟩ (fun A w hW => valid_c _ _ _ _ w ⟨hW.get 1 rfl (.trans (.R_R (stateO_chans s)) (.ofR (chansO_0 _ _ k hlt))), hW.get 1 rfl (.trans (.R_R (stateO_chans s)) (.ofR (chansO_1 _ _ k hlt))), hW.get 1 rfl (.trans (.R_R (stateO_chans s)) (.ofR (chansO_2 _ _ k hlt))), trivial⟩ ⟨by omega, by omega, by omega⟩) ?_
    rintro v L ⟨rfl, rfl⟩
    refine CaseB.mk (fun g => ?_) (fun g => ?_)
    · exact retw [] ⟨_, rfl, tno fun e => (by rw [(e.chans k _ hat).1] at g; cases g), rfl⟩ trivial rfl trivial (fun _ => rfl)
    have q1 : (s.chans[k]).m.valid = true := by simpa using g
    have hlp : k < p.rooms.length := by omega
    have hpat : p.pure.rooms[k]? = some p.rooms[k] := by simp [ProgH.pure, hlp]
    refine d_idx (ti := tiOf tab) encInt tabOk rfl rfl rfl rfl rfl ⟨rfl, rfl⟩ (rdVia 0 rfl (.ofR (progO_rooms p))) k rfl (by first | omega | (simp; done) | (simp; omega) | (unfold maxLen; omega) | (unfold maxLen; simp; done) | (unfold maxLen; simp; omega)) (fun ad2 => ?_)
    refine CaseB.mk (fun g => ?_) (fun g => ?_)
    · have q : ¬ (s.chans[k]).m.room = p.rooms[k] := by simpa using g
      exact retw [] ⟨_, rfl, tno fun e => q (by have := (e.chans k _ hat).2; rw [hpat] at this; injection this with this; exact this.symm), rfl⟩ trivial rfl trivial (fun _ => rfl)
    have q2 : (s.chans[k]).m.room = p.rooms[k] := by simpa using g
    refine ⟨⟨k + 1, by omega, fun i x hi hx => ?_⟩, ?_, by simp only; omega⟩
    · by_cases e : i < k
      · exact hinv i x e hx
      · obtain rfl : i = k := by omega
        rw [hat] at hx
        injection hx with hx
        subst hx
        exact ⟨q1, by rw [hpat, q2]⟩
    · refine weak_mk [0, 1] ?_ ?_ ?_ ?_ ?_ rfl rfl
      · repeat (first | exact trivial | refine ⟨⟨_, rfl, (by first | exact .of rfl | exact .lit rfl | exact .of (by first | ((exact congrArg (fun z => SV.v (Value.int .i64 z)) hw))) | exact .lit (by first | ((exact congrArg (fun z => SV.v (Value.int .i64 z)) hw)))), (by first | exact trivial | exact Nat.le_of_ble_eq_true rfl | exact small1 rfl)⟩, ?_⟩)
      · repeat (first | exact trivial | refine ⟨⟨(by first | exact .head _ | exact .tail _ (.head _) | exact .tail _ (.tail _ (.head _)) | exact .tail _ (.tail _ (.tail _ (.head _))) | exact .tail _ (.tail _ (.tail _ (.tail _ (.head _)))) | exact .tail _ (.tail _ (.tail _ (.tail _ (.tail _ (.head _))))) | exact .tail _ (.tail _ (.tail _ (.tail _ (.tail _ (.tail _ (.head _)))))) | exact .tail _ (.tail _ (.tail _ (.tail _ (.tail _ (.tail _ (.tail _ (.head _))))))) | exact .tail _ (.tail _ (.tail _ (.tail _ (.tail _ (.tail _ (.tail _ (.tail _ (.head _)))))))) | exact .tail _ (.tail _ (.tail _ (.tail _ (.tail _ (.tail _ (.tail _ (.tail _ (.tail _ (.head _)))))))))), Nat.le_of_ble_eq_true rfl⟩, ?_⟩)
      · repeat (first | exact trivial | refine ⟨⟨_, rfl, (by first | exact .of rfl | exact .lit rfl | exact .of (by first | ((exact congrArg (fun z => SV.v (Value.int .i64 z)) hw))) | exact .lit (by first | ((exact congrArg (fun z => SV.v (Value.int .i64 z)) hw)))), (by first | exact trivial | exact Nat.le_of_ble_eq_true rfl | exact small1 rfl)⟩, ?_⟩)
      · repeat (first | exact trivial | refine ⟨⟨_, rfl⟩, ?_⟩)
      · repeat (first | exact trivial | refine ⟨.inl ⟨_, rfl, (by first | rfl | ((exact congrArg (fun z => SV.v (Value.int .i64 z)) hw)))⟩, ?_⟩ | refine ⟨.inr ⟨Nat.le_of_ble_eq_true rfl, rfl, rfl, rfl, rfl⟩, ?_⟩)
  have hge : s.chans.length ≤ k := by simpa using g
  have vchans : ∀ (i : Nat) x, s.pure.chans[i]? = some x → x.valid = true ∧ p.pure.rooms[i]? = some x.room := fun i x hx => hinv i x (by have := (List.getElem?_eq_some_iff.1 hx).1; omega) hx
  refine LoopW.mk ⟨{ k : Nat // k ≤ s.onces.length ∧ ∀ (i : Nat) x, i < k → s.pure.onces[i]? = some x → OnceOk x },
    fun k => .mk [(2, .p 0 0), (3, .p 1 0), (183, .v (s.h3.val s.onces.length)), (184, .v (.int .i64 (s.onces.length : Int))), (185, .v (.int .i64 (k.1 : Int)))] 2 0 [(0, 26, 5), (1, 34, 9)] [((0, 0), .v (p.h0.val p.sems.length)), ((0, 1), .v (p.h1.val p.groups.length)), ((0, 2), .v (p.h2.val p.barriers.length)), ((0, 3), .v (p.h3.val p.rooms.length)), ((0, 4), .v (p.h4.val p.threads.length)), ((1, 0), .v (s.h0.val s.places.length)), ((1, 1), .v (s.h1.val s.status.length)), ((1, 2), .v (s.h2.val s.sems.length)), ((1, 3), .v (s.h3.val s.onces.length)), ((1, 4), .v (s.h4.val s.groups.length)), ((1, 5), .v (s.h5.val s.barriers.length)), ((1, 6), .v (s.h6.val s.chans.length)), ((1, 7), .v (s.h7.val s.said.length)), ((1, 8), .v (.int .i64 s.fault))] [fR (progO p), fR (stateO s)],
    fun k => s.onces.length - k.1, ⟨0, Nat.zero_le _, fun i x hi => by omega⟩, ?_, ?_⟩
  · refine weak_mk [0, 1] ?_ ?_ ?_ ?_ ?_ rfl rfl
    · repeat (first | exact trivial | refine ⟨⟨_, rfl, (by first | exact .of rfl | exact .lit rfl | exact .of (by first | (rfl)) | exact .lit (by first | (rfl))), (by first | exact trivial | exact Nat.le_of_ble_eq_true rfl | exact small1 rfl)⟩, ?_⟩)
    · repeat (first | exact trivial | refine ⟨⟨(by first | exact .head _ | exact .tail _ (.head _) | exact .tail _ (.tail _ (.head _)) | exact .tail _ (.tail _ (.tail _ (.head _))) | exact .tail _ (.tail _ (.tail _ (.tail _ (.head _)))) | exact .tail _ (.tail _ (.tail _ (.tail _ (.tail _ (.head _))))) | exact .tail _ (.tail _ (.tail _ (.tail _ (.tail _ (.tail _ (.head _)))))) | exact .tail _ (.tail _ (.tail _ (.tail _ (.tail _ (.tail _ (.tail _ (.head _))))))) | exact .tail _ (.tail _ (.tail _ (.tail _ (.tail _ (.tail _ (.tail _ (.tail _ (.head _)))))))) | exact .tail _ (.tail _ (.tail _ (.tail _ (.tail _ (.tail _ (.tail _ (.tail _ (.tail _ (.head _)))))))))), Nat.le_of_ble_eq_true rfl⟩, ?_⟩)
    · repeat (first | exact trivial | refine ⟨⟨_, rfl, (by first | exact .of rfl | exact .lit rfl | exact .of (by first | (rfl)) | exact .lit (by first | (rfl))), (by first | exact trivial | exact Nat.le_of_ble_eq_true rfl | exact small1 rfl)⟩, ?_⟩)
    · repeat (first | exact trivial | refine ⟨⟨_, rfl⟩, ?_⟩)
    · repeat (first | exact trivial | refine ⟨.inl ⟨_, rfl, (by first | rfl | (rfl))⟩, ?_⟩ | refine ⟨.inr ⟨Nat.le_of_ble_eq_true rfl, rfl, rfl, rfl, rfl⟩, ?_⟩)
  rintro ⟨k, hk, hinv⟩
  refine CaseB.mk (fun g => ?_) (fun g => ?_)
  · have hlt : k < s.onces.length := by simpa using g
    have hw := e_succ k _ hlt (by omega)
    have hat : s.pure.onces[k]? = some (s.onces[k]).m := by simp [StateH.pure, hlt]
    have hsm := (allS_map b3).2 _ (List.getElem_mem hlt)
    unfold Once.small20 at hsm
    refine stop_idx encOnceH tabOk rfl rfl rfl rfl rfl ⟨rfl, rfl⟩ (rdVia 1 rfl (.trans (.R_R (stateO_onces s)) (.ofR nest_h))) k rfl (by first | omega | (simp; done) | (simp; omega) | (unfold maxLen; omega) | (unfold maxLen; simp; done) | (unfold maxLen; simp; omega)) (fun ad => ?_)
    refine stop_call _ cl35 rfl rfl rfl rfl ⟨rfl, rfl⟩ (fun A w hW => onceValid_c _ _ w ⟨hW.get 1 rfl (.trans (.R_R (stateO_onces s)) (.ofR (oncesO_0 _ _ k hlt))), trivial⟩ (by omega)) ?_
    rintro v L ⟨bb, rfl, hbb, rfl⟩
    refine CaseB.mk (fun g => ?_) (fun g => ?_)
    · exact retw [] ⟨_, rfl, tno fun e => (by rw [hbb.2 (e.onces _ (List.mem_of_getElem? hat))] at g; cases g), rfl⟩ trivial rfl trivial (fun _ => rfl)
    have q1 := hbb.1 (by simpa using g)
    refine ⟨⟨k + 1, by omega, fun i x hi hx => ?_⟩, ?_, by simp only; omega⟩
    · by_cases e : i < k
      · exact hinv i x e hx
      · obtain rfl : i = k := by omega
        rw [hat] at hx
        injection hx with hx
        subst hx
        exact q1
    · refine weak_mk [0, 1] ?_ ?_ ?_ ?_ ?_ rfl rfl
      · repeat (first | exact trivial | refine ⟨⟨_, rfl, (by first | exact .of rfl | exact .lit rfl | exact .of (by first | ((exact congrArg (fun z => SV.v (Value.int .i64 z)) hw))) | exact .lit (by first | ((exact congrArg (fun z => SV.v (Value.int .i64 z)) hw)))), (by first | exact trivial | exact Nat.le_of_ble_eq_true rfl | exact small1 rfl)⟩, ?_⟩)
      · repeat (first | exact trivial | refine ⟨⟨(by first | exact .head _ | exact .tail _ (.head _) | exact .tail _ (.tail _ (.head _)) | exact .tail _ (.tail _ (.tail _ (.head _))) | exact .tail _ (.tail _ (.tail _ (.tail _ (.head _)))) | exact .tail _ (.tail _ (.tail _ (.tail _ (.tail _ (.head _))))) | exact .tail _ (.tail _ (.tail _ (.tail _ (.tail _ (.tail _ (.head _)))))) | exact .tail _ (.tail _ (.tail _ (.tail _ (.tail _ (.tail _ (.tail _ (.head _))))))) | exact .tail _ (.tail _ (.tail _ (.tail _ (.tail _ (.tail _ (.tail _ (.tail _ (.head _)))))))) | exact .tail _ (.tail _ (.tail _ (.tail _ (.tail _ (.tail _ (.tail _ (.tail _ (.tail _ (.head _)))))))))), Nat.le_of_ble_eq_true rfl⟩, ?_⟩)
      · repeat (first | exact trivial | refine ⟨⟨_, rfl, (by first | exact .of rfl | exact .lit rfl | exact .of (by first | ((exact congrArg (fun z => SV.v (Value.int .i64 z)) hw))) | exact .lit (by first | ((exact congrArg (fun z => SV.v (Value.int .i64 z)) hw)))), (by first | exact trivial | exact Nat.le_of_ble_eq_true rfl | exact small1 rfl)⟩, ?_⟩)
      · repeat (first | exact trivial | refine ⟨⟨_, rfl⟩, ?_⟩)
      · repeat (first | exact trivial | refine ⟨.inl ⟨_, rfl, (by first | rfl | ((exact congrArg (fun z => SV.v (Value.int .i64 z)) hw)))⟩, ?_⟩ | refine ⟨.inr ⟨Nat.le_of_ble_eq_true rfl, rfl, rfl, rfl, rfl⟩, ?_⟩)
  have hge : s.onces.length ≤ k := by simpa using g
  have vonces : ∀ (i : Nat) x, s.pure.onces[i]? = some x → OnceOk x := fun i x hx => hinv i x (by have := (List.getElem?_eq_some_iff.1 hx).1; omega) hx
  refine LoopW.mk ⟨{ k : Nat // k ≤ s.said.length ∧ ∀ x ∈ s.said.take k, isValue x = true },
    fun k => .mk [(2, .p 0 0), (3, .p 1 0), (194, .v (s.h7.val s.said.length)), (195, .v (.int .i64 (s.said.length : Int))), (196, .v (.int .i64 (k.1 : Int)))] 2 0 [(0, 26, 5), (1, 34, 9)] [((0, 0), .v (p.h0.val p.sems.length)), ((0, 1), .v (p.h1.val p.groups.length)), ((0, 2), .v (p.h2.val p.barriers.length)), ((0, 3), .v (p.h3.val p.rooms.length)), ((0, 4), .v (p.h4.val p.threads.length)), ((1, 0), .v (s.h0.val s.places.length)), ((1, 1), .v (s.h1.val s.status.length)), ((1, 2), .v (s.h2.val s.sems.length)), ((1, 3), .v (s.h3.val s.onces.length)), ((1, 4), .v (s.h4.val s.groups.length)), ((1, 5), .v (s.h5.val s.barriers.length)), ((1, 6), .v (s.h6.val s.chans.length)), ((1, 7), .v (s.h7.val s.said.length)), ((1, 8), .v (.int .i64 s.fault))] [fR (progO p), fR (stateO s)],
    fun k => s.said.length - k.1, ⟨0, Nat.zero_le _, by simp⟩, ?_, ?_⟩
  · refine weak_mk [0, 1] ?_ ?_ ?_ ?_ ?_ rfl rfl
    · repeat (first | exact trivial | refine ⟨⟨_, rfl, (by first | exact .of rfl | exact .lit rfl | exact .of (by first | (rfl)) | exact .lit (by first | (rfl))), (by first | exact trivial | exact Nat.le_of_ble_eq_true rfl | exact small1 rfl)⟩, ?_⟩)
    · repeat (first | exact trivial | refine ⟨⟨(by first | exact .head _ | exact .tail _ (.head _) | exact .tail _ (.tail _ (.head _)) | exact .tail _ (.tail _ (.tail _ (.head _))) | exact .tail _ (.tail _ (.tail _ (.tail _ (.head _)))) | exact .tail _ (.tail _ (.tail _ (.tail _ (.tail _ (.head _))))) | exact .tail _ (.tail _ (.tail _ (.tail _ (.tail _ (.tail _ (.head _)))))) | exact .tail _ (.tail _ (.tail _ (.tail _ (.tail _ (.tail _ (.tail _ (.head _))))))) | exact .tail _ (.tail _ (.tail _ (.tail _ (.tail _ (.tail _ (.tail _ (.tail _ (.head _)))))))) | exact .tail _ (.tail _ (.tail _ (.tail _ (.tail _ (.tail _ (.tail _ (.tail _ (.tail _ (.head _)))))))))), Nat.le_of_ble_eq_true rfl⟩, ?_⟩)
    · repeat (first | exact trivial | refine ⟨⟨_, rfl, (by first | exact .of rfl | exact .lit rfl | exact .of (by first | (rfl)) | exact .lit (by first | (rfl))), (by first | exact trivial | exact Nat.le_of_ble_eq_true rfl | exact small1 rfl)⟩, ?_⟩)
    · repeat (first | exact trivial | refine ⟨⟨_, rfl⟩, ?_⟩)
    · repeat (first | exact trivial | refine ⟨.inl ⟨_, rfl, (by first | rfl | (rfl))⟩, ?_⟩ | refine ⟨.inr ⟨Nat.le_of_ble_eq_true rfl, rfl, rfl, rfl, rfl⟩, ?_⟩)
  rintro ⟨k, hk, hinv⟩
  refine CaseB.mk (fun g => ?_) (fun g => ?_)
  · have hlt : k < s.said.length := by simpa using g
    have hw := e_succ k _ hlt (by omega)
    refine stop_idx encInt tabOk rfl rfl rfl rfl rfl ⟨rfl, rfl⟩ (rdVia 1 rfl (.ofR (stateO_said s))) k rfl (by first | omega | (simp; done) | (simp; omega) | (unfold maxLen; omega) | (unfold maxLen; simp; done) | (unfold maxLen; simp; omega)) (fun ad => ?_)
    refine stop_call _ cl36 rfl rfl rfl rfl ⟨rfl, rfl⟩ (fun A w hW => isValue_c _ w) ?_
    rintro v L ⟨rfl, rfl⟩
    refine CaseB.mk (fun g => ?_) (fun g => ?_)
    · exact retw [] ⟨_, rfl, tno fun e => (by rw [e.said _ (List.getElem_mem (l := s.said) hlt)] at g; cases g), rfl⟩ trivial rfl trivial (fun _ => rfl)
    refine ⟨⟨k + 1, by omega, fun x hx => ?_⟩, ?_, by simp only; omega⟩
    · rw [List.take_succ_eq_append_getElem hlt] at hx
      rcases List.mem_append.1 hx with hx | hx
      · exact hinv x hx
      · simp at hx; subst hx; simpa using g
    · refine weak_mk [0, 1] ?_ ?_ ?_ ?_ ?_ rfl rfl
      · repeat (first | exact trivial | refine ⟨⟨_, rfl, (by first | exact .of rfl | exact .lit rfl | exact .of (by first | ((exact congrArg (fun z => SV.v (Value.int .i64 z)) hw))) | exact .lit (by first | ((exact congrArg (fun z => SV.v (Value.int .i64 z)) hw)))), (by first | exact trivial | exact Nat.le_of_ble_eq_true rfl | exact small1 rfl)⟩, ?_⟩)
      · repeat (first | exact trivial | refine ⟨⟨(by first | exact .head _ | exact .tail _ (.head _) | exact .tail _ (.tail _ (.head _)) | exact .tail _ (.tail _ (.tail _ (.head _))) | exact .tail _ (.tail _ (.tail _ (.tail _ (.head _)))) | exact .tail _ (.tail _ (.tail _ (.tail _ (.tail _ (.head _))))) | exact .tail _ (.tail _ (.tail _ (.tail _ (.tail _ (.tail _ (.head _)))))) | exact .tail _ (.tail _ (.tail _ (.tail _ (.tail _ (.tail _ (.tail _ (.head _))))))) | exact .tail _ (.tail _ (.tail _ (.tail _ (.tail _ (.tail _ (.tail _ (.tail _ (.head _)))))))) | exact .tail _ (.tail _ (.tail _ (.tail _ (.tail _ (.tail _ (.tail _ (.tail _ (.tail _ (.head _)))))))))), Nat.le_of_ble_eq_true rfl⟩, ?_⟩)
      · repeat (first | exact trivial | refine ⟨⟨_, rfl, (by first | exact .of rfl | exact .lit rfl | exact .of (by first | ((exact congrArg (fun z => SV.v (Value.int .i64 z)) hw))) | exact .lit (by first | ((exact congrArg (fun z => SV.v (Value.int .i64 z)) hw)))), (by first | exact trivial | exact Nat.le_of_ble_eq_true rfl | exact small1 rfl)⟩, ?_⟩)
      · repeat (first | exact trivial | refine ⟨⟨_, rfl⟩, ?_⟩)
      · repeat (first | exact trivial | refine ⟨.inl ⟨_, rfl, (by first | rfl | ((exact congrArg (fun z => SV.v (Value.int .i64 z)) hw)))⟩, ?_⟩ | refine ⟨.inr ⟨Nat.le_of_ble_eq_true rfl, rfl, rfl, rfl, rfl⟩, ?_⟩)
  have hge : s.said.length ≤ k := by simpa using g
  have vsaid : ∀ x ∈ s.said, isValue x = true := by rw [List.take_of_length_le hge] at hinv; exact hinv
  have hN : (events s.pure).length ≤ 1048576 := by
    have ge : ∀ {α : Type} {xs : List α} {Q : α → Prop}, (∀ (i : Nat) x, xs[i]? = some x → Q x) → ∀ x ∈ xs, Q x := fun h x hx => by
      obtain ⟨i, hi⟩ := List.getElem?_of_mem hx
      exact h i x hi
    have e1 := evL_len (f := evSem) (C := 6) (i := 0) (xs := s.pure.sems) fun i x hx => by
      have := (ge (Q := SemOk) (fun i x h => (vsems i x h).1) x hx).q6; simpa [evSem] using this
    have e2 := evL_len (f := evOnce) (C := 6) (i := 0) (xs := s.pure.onces) fun i x hx => by
      have := onceOk_len (ge vonces x hx); simpa [evOnce] using this
    have e3 := evL_len (f := evGroup) (C := 6) (i := 0) (xs := s.pure.groups) fun i x hx => by
      have := groupOk_len (ge vgroups x hx); simpa [evGroup] using this
    have e4 := evL_len (f := evBarrier) (C := 6) (i := 0) (xs := s.pure.barriers) fun i x hx => by
      have := barrierOk_len (ge (Q := BarrierOk) (fun i x h => (vbarriers i x h).1) x hx); simpa [evBarrier] using this
    have e5 := evL_len (f := evChan) (C := 6) (i := 0) (xs := s.pure.chans) fun i x hx => by
      have := chanOk_len (ge (Q := fun x => x.valid = true) (fun i x h => (vchans i x h).1) x hx); simpa [evChan] using this
    simp only [events, List.length_append]
    omega
  refine stop_call _ cl37 rfl rfl rfl rfl ⟨rfl, rfl⟩ (fun A w hW => waitingsOf_c s w ⟨hW.get 1 rfl (.refl _), trivial⟩ hN ⟨by omega, by omega, by omega, by omega, by omega⟩) ?_
  rintro v L ⟨r, r2, ps, os, rfl, hps, hos, rfl⟩
  have kps : keyed ps := keyed_pm.1 (by rw [hps]; exact mapOf_keyed _)
  have kos : keyed os := keyed_pm.1 (by rw [hos]; exact mapOf_keyed _)
  refine LoopW.mk ⟨{ q : Nat × List (Int × LH Waiting) × List (Int × LH Int) // q.1 ≤ p.threads.length ∧ Left ps q.2.1 q.1 ∧ Left os q.2.2 q.1 ∧ ∀ (t : Nat) ops at_ st, t < q.1 → p.pure.threads[t]? = some ops → s.pure.places[t]? = some at_ → s.pure.status[t]? = some st → ThreadOk ops at_ st (ofKey (events s.pure) t) (ofKey (owners s.pure) t) },
    fun q => .mk [(2, .p 0 0), (3, .p 1 0), (18, .v (.map (some r))), (19, .v (.map (some r2))), (210, .v (p.h4.val p.threads.length)), (211, .v (.int .i64 (p.threads.length : Int))), (212, .v (.int .i64 (q.1.1 : Int)))] 2 0 [(0, 26, 5), (1, 34, 9)] [((0, 0), .v (p.h0.val p.sems.length)), ((0, 1), .v (p.h1.val p.groups.length)), ((0, 2), .v (p.h2.val p.barriers.length)), ((0, 3), .v (p.h3.val p.rooms.length)), ((0, 4), .v (p.h4.val p.threads.length)), ((1, 0), .v (s.h0.val s.places.length)), ((1, 1), .v (s.h1.val s.status.length)), ((1, 2), .v (s.h2.val s.sems.length)), ((1, 3), .v (s.h3.val s.onces.length)), ((1, 4), .v (s.h4.val s.groups.length)), ((1, 5), .v (s.h5.val s.barriers.length)), ((1, 6), .v (s.h6.val s.chans.length)), ((1, 7), .v (s.h7.val s.said.length)), ((1, 8), .v (.int .i64 s.fault))] [fMW r q.1.2.1, fMap r2 venH q.1.2.2, fO (rW ps), fO (rI os), fR (progO p), fR (stateO s)],
    fun q => p.threads.length - q.1.1, ⟨(0, ps, os), Nat.zero_le _, Left.start kps, Left.start kos, fun t _ _ _ ht => by simp only at ht; omega⟩, ?_, ?_⟩
  · refine weak_mk [0, 2, 1, 3, 4, 5] ?_ ?_ ?_ ?_ ?_ rfl rfl
    · repeat (first | exact trivial | refine ⟨⟨_, rfl, (by first | exact .of rfl | exact .lit rfl | exact .of (by first | (rfl)) | exact .lit (by first | (rfl))), (by first | exact trivial | exact Nat.le_of_ble_eq_true rfl | exact small1 rfl)⟩, ?_⟩)
    · repeat (first | exact trivial | refine ⟨⟨(by first | exact .head _ | exact .tail _ (.head _) | exact .tail _ (.tail _ (.head _)) | exact .tail _ (.tail _ (.tail _ (.head _))) | exact .tail _ (.tail _ (.tail _ (.tail _ (.head _)))) | exact .tail _ (.tail _ (.tail _ (.tail _ (.tail _ (.head _))))) | exact .tail _ (.tail _ (.tail _ (.tail _ (.tail _ (.tail _ (.head _)))))) | exact .tail _ (.tail _ (.tail _ (.tail _ (.tail _ (.tail _ (.tail _ (.head _))))))) | exact .tail _ (.tail _ (.tail _ (.tail _ (.tail _ (.tail _ (.tail _ (.tail _ (.head _)))))))) | exact .tail _ (.tail _ (.tail _ (.tail _ (.tail _ (.tail _ (.tail _ (.tail _ (.tail _ (.head _)))))))))), Nat.le_of_ble_eq_true rfl⟩, ?_⟩)
    · repeat (first | exact trivial | refine ⟨⟨_, rfl, (by first | exact .of rfl | exact .lit rfl | exact .of (by first | (rfl)) | exact .lit (by first | (rfl))), (by first | exact trivial | exact Nat.le_of_ble_eq_true rfl | exact small1 rfl)⟩, ?_⟩)
    · repeat (first | exact trivial | refine ⟨⟨_, rfl⟩, ?_⟩)
    · repeat (first | exact trivial | refine ⟨.inl ⟨_, rfl, (by first | rfl | (rfl))⟩, ?_⟩ | refine ⟨.inr ⟨Nat.le_of_ble_eq_true rfl, rfl, rfl, rfl, rfl⟩, ?_⟩)
  rintro ⟨⟨k, qs, ts⟩, hk, lq, lo, hinv⟩
  simp only at hk lq lo hinv
  refine CaseB.mk (fun g => ?_) (fun g => ?_)
  rotate_left
  · have hge : k = p.threads.length := by have g' : ¬ (k : Int) < p.threads.length := by simpa using g
                                          omega
    subst hge
    have dq := lq.done hps
    have dn := lo.done hos
    have fin : (∀ e ∈ events s.pure, 0 ≤ e.1 ∧ e.1 < p.threads.length) → (∀ e ∈ owners s.pure, 0 ≤ e.1 ∧ e.1 < p.threads.length) → Fits p.pure s.pure := fun h1 h2 =>
      ⟨ok, by rw [lt]; exact c0, by rw [lt]; exact c1, by rw [l2]; exact c2, by rw [l4]; exact c4, by rw [l5]; exact c5, by rw [l6]; exact c6, by rw [l3]; exact c3, c7, c8, c9, vsems, fun x hx => by obtain ⟨i, hi⟩ := List.getElem?_of_mem hx; exact vgroups i x hi, vbarriers, vchans, fun x hx => by obtain ⟨i, hi⟩ := List.getElem?_of_mem hx; exact vonces i x hi, vsaid,
        fun t ops a st ht => hinv t ops a st (by have := (List.getElem?_eq_some_iff.1 ht).1; rw [lt] at this; exact this) ht, by rw [lt]; exact h1, by rw [lt]; exact h2⟩
    refine stop_lenM 0 (kt := 3) (et := 87) rfl rfl rfl rfl rfl rfl ⟨rfl, rfl⟩ (by kernel_rfl) ?_
    refine CaseB.mk (fun g => ?_) (fun g => ?_)
    · have q0 : qs = [] := by simpa using g
      refine stop_lenM 1 (kt := 3) (et := 23) rfl rfl rfl rfl rfl rfl ⟨rfl, rfl⟩ (by kernel_rfl) ?_
      refine retw [] ⟨_, rfl, ?_, rfl⟩ trivial rfl trivial (fun _ => rfl)
      constructor
      · intro g2
        exact fin (dq.1 q0) (dn.1 (by simpa using g2))
      · intro e
        have := dn.2 (by rw [← lt]; exact e.ow)
        simp [this]
    · have q0 : ¬ qs = [] := by simpa using g
      exact retw [] ⟨_, rfl, tno fun e => q0 (dq.2 (by rw [← lt]; exact e.ev)), rfl⟩ trivial rfl trivial (fun _ => rfl)
  have hlt : k < p.threads.length := by simpa using g
  have hw := e_succ k _ hlt (by omega)
  have hops : p.pure.threads[k]? = some (p.threads[k]).m := by simp [ProgH.pure, hlt]
  have hlp : k < s.places.length := by omega
  have hls : k < s.status.length := by omega
  have hpl : s.pure.places[k]? = some s.places[k] := List.getElem?_eq_getElem hlp
  have hst : s.pure.status[k]? = some s.status[k] := List.getElem?_eq_getElem hls
  have hth : Fits p.pure s.pure → ThreadOk (p.threads[k]).m s.places[k] s.status[k] (ofKey (events s.pure) k) (ofKey (owners s.pure) k) := fun e => e.threads k _ _ _ hops hpl hst
  obtain ⟨u, hu⟩ : ∃ u, u = (aget qs (k : Int)).getD LH.nil := ⟨_, rfl⟩
  obtain ⟨o, ho⟩ : ∃ o, o = (aget ts (k : Int)).getD LH.nil := ⟨_, rfl⟩
  have hux : u.xs = ofKey (events s.pure) k := by rw [hu]; exact lq.at hps
  have hox : o.xs = ofKey (owners s.pure) k := by rw [ho]; exact lo.at hos
  have hnext : ThreadOk (p.threads[k]).m s.places[k] s.status[k] u.xs o.xs → ∀ (t : Nat) ops at_ st, t < k + 1 → p.pure.threads[t]? = some ops → s.pure.places[t]? = some at_ → s.pure.status[t]? = some st → ThreadOk ops at_ st (ofKey (events s.pure) t) (ofKey (owners s.pure) t) := fun hok t ops a st ht h1 h2 h3 => by
    by_cases e : t < k
    · exact hinv t ops a st e h1 h2 h3
    · obtain rfl : t = k := by omega
      rw [hops] at h1; rw [hpl] at h2; rw [hst] at h3
      injection h1 with h1; injection h2 with h2; injection h3 with h3
      subst h1; subst h2; subst h3
      rw [← hux, ← hox]; exact hok
  rw [← hux, ← hox] at hth
  refine stop_idx encOpSH tabOk rfl rfl rfl rfl rfl ⟨rfl, rfl⟩ (rdVia 4 rfl (.trans (.R_R (progO_threads p)) (.ofR nest_h))) k rfl (by first | omega | (simp; done) | (simp; omega) | (unfold maxLen; omega) | (unfold maxLen; simp; done) | (unfold maxLen; simp; omega)) (fun ad => ?_)
  refine stop_idx encInt tabOk rfl rfl rfl rfl rfl ⟨rfl, rfl⟩ (rdVia 5 rfl (.ofR (stateO_places s))) k rfl (by first | omega | (simp; done) | (simp; omega) | (unfold maxLen; omega) | (unfold maxLen; simp; done) | (unfold maxLen; simp; omega)) (fun ad2 => ?_)
  refine CaseB.mk (fun g => ?_) (fun g => ?_)
  · have q : ¬ 0 ≤ s.places[k] := by have g' := of_decide_eq_true g; omega
    exact retw [] ⟨_, rfl, tno fun e => q (hth e).1, rfl⟩ trivial rfl trivial (fun _ => rfl)
  have a0 : 0 ≤ s.places[k] := by have g' := of_decide_eq_false g; omega
  refine CaseB.mk (fun g => ?_) (fun g => ?_)
  · have q : ¬ s.places[k] ≤ (p.threads[k]).m.length := by have g' := of_decide_eq_true g; omega
    exact retw [] ⟨_, rfl, tno fun e => q (hth e).2.1, rfl⟩ trivial rfl trivial (fun _ => rfl)
  have a1 : s.places[k] ≤ (p.threads[k]).m.length := by have g' := of_decide_eq_false g; omega
  refine draw_start tabOk (by kernel_rfl) (by kernel_rfl) (by kernel_rfl) 200 [] [2, 3, 5] [_, _, _] trivial trivial ⟨rfl, rfl, rfl, trivial⟩ rfl ?_
  refine BothW.mk ?_ ?_
  refine d_lookup 0 (qk := .i64) (kt := 3) (et := 87) (z := .slice none 0 0) rfl rfl rfl rfl ⟨rfl, rfl⟩ (by kernel_rfl) (by kernel_rfl) (by kernel_rfl) (u.q.val u.xs.length) (by rw [hu]; cases aget qs (k : Int) <;> rfl) ?_
  refine d_lookup 1 (qk := .i64) (kt := 3) (et := 23) (z := .slice none 0 0) rfl rfl rfl rfl ⟨rfl, rfl⟩ (by kernel_rfl) (by kernel_rfl) (by kernel_rfl) (o.q.val o.xs.length) (by rw [ho]; cases aget ts (k : Int) <;> rfl) ?_
  rotate_left
  refine d_lookup 1 (qk := .i64) (kt := 3) (et := 23) (z := .slice none 0 0) rfl rfl rfl rfl ⟨rfl, rfl⟩ (by kernel_rfl) (by kernel_rfl) (by kernel_rfl) (o.q.val o.xs.length) (by rw [ho]; cases aget ts (k : Int) <;> rfl) ?_
  refine d_lookup 0 (qk := .i64) (kt := 3) (et := 87) (z := .slice none 0 0) rfl rfl rfl rfl ⟨rfl, rfl⟩ (by kernel_rfl) (by kernel_rfl) (by kernel_rfl) (u.q.val u.xs.length) (by rw [hu]; cases aget qs (k : Int) <;> rfl) ?_
  all_goals
    refine stop_delete 0 (qk := .i64) (kt := 3) (et := 87) rfl rfl rfl rfl rfl rfl rfl rfl (by kernel_rfl) (by kernel_rfl) _ rfl ?_
    refine stop_delete 1 (qk := .i64) (kt := 3) (et := 23) rfl rfl rfl rfl rfl rfl rfl rfl (by kernel_rfl) (by kernel_rfl) _ rfl ?_
    have lq' := lq.next
    have lo' := lo.next
    refine CaseB.mk (fun g => ?_) (fun g => ?_)
    · have ae : s.places[k] = (p.threads[k]).m.length := by simpa using g
      have hne : ∀ {op : Op}, (p.threads[k]).m[(s.places[k]).toNat]? = some op → False := fun h => by
        have := (List.getElem?_eq_some_iff.1 h).1; omega
      have hfin : Fits p.pure s.pure → s.status[k] = 3 ∧ u.xs = [] ∧ o.xs = [] := fun e => by
        rcases (hth e).2.2 with h | ⟨op, h, _⟩
        · exact h.2
        · exact (hne h).elim
      refine stop_idx encInt tabOk rfl rfl rfl rfl rfl ⟨rfl, rfl⟩ (rdVia 5 rfl (.ofR (stateO_status s))) k rfl (by first | omega | (simp; done) | (simp; omega) | (unfold maxLen; omega) | (unfold maxLen; simp; done) | (unfold maxLen; simp; omega)) (fun ad3 => ?_)
      refine CaseB.mk (fun g => ?_) (fun g => ?_)
      · have q : ¬ s.status[k] = 3 := by simpa using g
        exact retw [] ⟨_, rfl, tno fun e => q (hfin e).1, rfl⟩ trivial rfl trivial (fun _ => rfl)
      have s3 : s.status[k] = 3 := by simpa using g
      refine CaseB.mk (fun g => ?_) (fun g => ?_)
      · have q : ¬ u.xs = [] := len_pos.1 g
        exact retw [] ⟨_, rfl, tno fun e => q (hfin e).2.1, rfl⟩ trivial rfl trivial (fun _ => rfl)
      have ux : u.xs = [] := Classical.byContradiction fun n => by rw [len_pos.2 n] at g; cases g
      refine CaseB.mk (fun g => ?_) (fun g => ?_)
      · have q : ¬ o.xs = [] := len_pos.1 g
        exact retw [] ⟨_, rfl, tno fun e => q (hfin e).2.2, rfl⟩ trivial rfl trivial (fun _ => rfl)
      have ox : o.xs = [] := Classical.byContradiction fun n => by rw [len_pos.2 n] at g; cases g
      refine ⟨⟨(k + 1, adel qs (k : Int), adel ts (k : Int)), by omega, lq', lo', hnext ⟨a0, a1, .inl ⟨ae, s3, ux, ox⟩⟩⟩, ?_, by simp only; omega⟩
      refine weak_mk [1, 0, 2, 3, 4, 5] ?_ ?_ ?_ ?_ ?_ rfl rfl
      · repeat (first | exact trivial | refine ⟨⟨_, rfl, (by first | exact .of rfl | exact .lit rfl | exact .of (by first | ((exact congrArg (fun z => SV.v (Value.int .i64 z)) hw))) | exact .lit (by first | ((exact congrArg (fun z => SV.v (Value.int .i64 z)) hw)))), (by first | exact trivial | exact Nat.le_of_ble_eq_true rfl | exact small1 rfl)⟩, ?_⟩)
      · repeat (first | exact trivial | refine ⟨⟨(by first | exact .head _ | exact .tail _ (.head _) | exact .tail _ (.tail _ (.head _)) | exact .tail _ (.tail _ (.tail _ (.head _))) | exact .tail _ (.tail _ (.tail _ (.tail _ (.head _)))) | exact .tail _ (.tail _ (.tail _ (.tail _ (.tail _ (.head _))))) | exact .tail _ (.tail _ (.tail _ (.tail _ (.tail _ (.tail _ (.head _)))))) | exact .tail _ (.tail _ (.tail _ (.tail _ (.tail _ (.tail _ (.tail _ (.head _))))))) | exact .tail _ (.tail _ (.tail _ (.tail _ (.tail _ (.tail _ (.tail _ (.tail _ (.head _)))))))) | exact .tail _ (.tail _ (.tail _ (.tail _ (.tail _ (.tail _ (.tail _ (.tail _ (.tail _ (.head _)))))))))), Nat.le_of_ble_eq_true rfl⟩, ?_⟩)
      · repeat (first | exact trivial | refine ⟨⟨_, rfl, (by first | exact .of rfl | exact .lit rfl | exact .of (by first | ((exact congrArg (fun z => SV.v (Value.int .i64 z)) hw))) | exact .lit (by first | ((exact congrArg (fun z => SV.v (Value.int .i64 z)) hw)))), (by first | exact trivial | exact Nat.le_of_ble_eq_true rfl | exact small1 rfl)⟩, ?_⟩)
      · repeat (first | exact trivial | refine ⟨⟨_, rfl⟩, ?_⟩)
      · repeat (first | exact trivial | refine ⟨.inl ⟨_, rfl, (by first | rfl | ((exact congrArg (fun z => SV.v (Value.int .i64 z)) hw)))⟩, ?_⟩ | refine ⟨.inr ⟨Nat.le_of_ble_eq_true rfl, rfl, rfl, rfl, rfl⟩, ?_⟩)
    have ane : ¬ s.places[k] = (p.threads[k]).m.length := by simpa using g
    have hlo : (s.places[k]).toNat < (p.threads[k]).m.length := by omega
    obtain ⟨op, hop⟩ : ∃ op, (p.threads[k]).m[(s.places[k]).toNat]? = some op := ⟨_, List.getElem?_eq_getElem hlo⟩
    have hopg : (p.threads[k]).m[(s.places[k]).toNat] = op := by rw [List.getElem?_eq_getElem hlo] at hop; injection hop
    have hfin : Fits p.pure s.pure → (s.status[k] = 0 ∧ u.xs = [] ∧ o.xs = []) ∨ (s.status[k] = 1 ∧ o.xs = [] ∧ u.xs = [want op]) ∨ (s.status[k] = 2 ∧ u.xs = [] ∧ op.kind = 4 ∧ o.xs = [op.on]) := fun e => by
      rcases (hth e).2.2 with h | ⟨op', h, h2⟩
      · exact (ane h.1).elim
      · rw [hop] at h; injection h with h; subst h; exact h2
    have hgood : (s.status[k] = 0 ∧ u.xs = [] ∧ o.xs = []) ∨ (s.status[k] = 1 ∧ o.xs = [] ∧ u.xs = [want op]) ∨ (s.status[k] = 2 ∧ u.xs = [] ∧ op.kind = 4 ∧ o.xs = [op.on]) → ThreadOk (p.threads[k]).m s.places[k] s.status[k] u.xs o.xs := fun h => ⟨a0, a1, .inr ⟨op, hop, h⟩⟩
    refine stop_idx encOp tabOk rfl rfl rfl rfl rfl ⟨rfl, rfl⟩ (rdVia 4 rfl (.trans (.R_R (progO_threads p)) (.ofR (threadsO_0 _ _ k hlt)))) (s.places[k]).toNat (by omega) (by first | omega | (simp; done) | (simp; omega) | (unfold maxLen; omega) | (unfold maxLen; simp; done) | (unfold maxLen; simp; omega)) (fun ad3 => ?_)
    rw [hopg]
    refine stop_idx encInt tabOk rfl rfl rfl rfl rfl ⟨rfl, rfl⟩ (rdVia 5 rfl (.ofR (stateO_status s))) k rfl (by first | omega | (simp; done) | (simp; omega) | (unfold maxLen; omega) | (unfold maxLen; simp; done) | (unfold maxLen; simp; omega)) (fun ad4 => ?_)
    refine CaseB.mk (fun g => ?_) (fun g0 => ?_)
    · have s0 : s.status[k] = 0 := by simpa using g
      have hf0 : Fits p.pure s.pure → u.xs = [] ∧ o.xs = [] := fun e => by
        rcases hfin e with h | h | h
        · exact h.2
        · rw [s0] at h; exact absurd h.1 (by decide)
        · rw [s0] at h; exact absurd h.1 (by decide)
      refine CaseB.mk (fun g => ?_) (fun g => ?_)
      · have q : ¬ u.xs = [] := len_pos.1 g
        exact retw [] ⟨_, rfl, tno fun e => q (hf0 e).1, rfl⟩ trivial rfl trivial (fun _ => rfl)
      have ux : u.xs = [] := Classical.byContradiction fun n => by rw [len_pos.2 n] at g; cases g
      refine CaseB.mk (fun g => ?_) (fun g => ?_)
      · have q : ¬ o.xs = [] := len_pos.1 g
        exact retw [] ⟨_, rfl, tno fun e => q (hf0 e).2, rfl⟩ trivial rfl trivial (fun _ => rfl)
      have ox : o.xs = [] := Classical.byContradiction fun n => by rw [len_pos.2 n] at g; cases g
      refine ⟨⟨(k + 1, adel qs (k : Int), adel ts (k : Int)), by omega, lq', lo', hnext (hgood (.inl ⟨s0, ux, ox⟩))⟩, ?_, by simp only; omega⟩
      refine weak_mk [1, 0, 2, 3, 4, 5] ?_ ?_ ?_ ?_ ?_ rfl rfl
      · repeat (first | exact trivial | refine ⟨⟨_, rfl, (by first | exact .of rfl | exact .lit rfl | exact .of (by first | ((exact congrArg (fun z => SV.v (Value.int .i64 z)) hw))) | exact .lit (by first | ((exact congrArg (fun z => SV.v (Value.int .i64 z)) hw)))), (by first | exact trivial | exact Nat.le_of_ble_eq_true rfl | exact small1 rfl)⟩, ?_⟩)
      · repeat (first | exact trivial | refine ⟨⟨(by first | exact .head _ | exact .tail _ (.head _) | exact .tail _ (.tail _ (.head _)) | exact .tail _ (.tail _ (.tail _ (.head _))) | exact .tail _ (.tail _ (.tail _ (.tail _ (.head _)))) | exact .tail _ (.tail _ (.tail _ (.tail _ (.tail _ (.head _))))) | exact .tail _ (.tail _ (.tail _ (.tail _ (.tail _ (.tail _ (.head _)))))) | exact .tail _ (.tail _ (.tail _ (.tail _ (.tail _ (.tail _ (.tail _ (.head _))))))) | exact .tail _ (.tail _ (.tail _ (.tail _ (.tail _ (.tail _ (.tail _ (.tail _ (.head _)))))))) | exact .tail _ (.tail _ (.tail _ (.tail _ (.tail _ (.tail _ (.tail _ (.tail _ (.tail _ (.head _)))))))))), Nat.le_of_ble_eq_true rfl⟩, ?_⟩)
      · repeat (first | exact trivial | refine ⟨⟨_, rfl, (by first | exact .of rfl | exact .lit rfl | exact .of (by first | ((exact congrArg (fun z => SV.v (Value.int .i64 z)) hw))) | exact .lit (by first | ((exact congrArg (fun z => SV.v (Value.int .i64 z)) hw)))), (by first | exact trivial | exact Nat.le_of_ble_eq_true rfl | exact small1 rfl)⟩, ?_⟩)
      · repeat (first | exact trivial | refine ⟨⟨_, rfl⟩, ?_⟩)
      · repeat (first | exact trivial | refine ⟨.inl ⟨_, rfl, (by first | rfl | ((exact congrArg (fun z => SV.v (Value.int .i64 z)) hw)))⟩, ?_⟩ | refine ⟨.inr ⟨Nat.le_of_ble_eq_true rfl, rfl, rfl, rfl, rfl⟩, ?_⟩)
    have n0 : ¬ s.status[k] = 0 := by simpa using g0
    refine CaseB.mk (fun g => ?_) (fun g1 => ?_)
    · have s1 : s.status[k] = 1 := by simpa using g
      have hf1 : Fits p.pure s.pure → o.xs = [] ∧ u.xs = [want op] := fun e => by
        rcases hfin e with h | h | h
        · rw [s1] at h; exact absurd h.1 (by decide)
        · exact h.2
        · rw [s1] at h; exact absurd h.1 (by decide)
      refine CaseB.mk (fun g => ?_) (fun g => ?_)
      · have hk2 : op.kind = 2 ∨ op.kind = 8 := .inl (by simpa using g)
        have hwant : want op = ⟨op.kind, op.on, op.arg⟩ := by simp only [want, if_pos hk2]
        refine draw_start tabOk (by kernel_rfl) (by kernel_rfl) (by kernel_rfl) 200 [((3, 0), .v (.int .i64 op.kind)), ((3, 1), .v (.int .i64 op.on)), ((3, 2), .v (.int .i64 op.arg))] [2] [_] ⟨⟨_, rfl, rfl, (by first | exact trivial | exact Nat.le_of_ble_eq_true rfl)⟩, ⟨_, rfl, rfl, (by first | exact trivial | exact Nat.le_of_ble_eq_true rfl)⟩, ⟨_, rfl, rfl, (by first | exact trivial | exact Nat.le_of_ble_eq_true rfl)⟩, trivial⟩ ⟨⟨_, rfl⟩, ⟨_, rfl⟩, ⟨_, rfl⟩, trivial⟩ ⟨rfl, trivial⟩ rfl ?_
        refine CaseB.mk (fun g => ?_) (fun g => ?_)
        · have q : ¬ o.xs = [] := len_pos.1 g
          exact retw [] ⟨_, rfl, tno fun e => q (hf1 e).1, rfl⟩ trivial rfl trivial (fun _ => rfl)
        have ox : o.xs = [] := Classical.byContradiction fun n => by rw [len_pos.2 n] at g; cases g
        refine CaseB.mk (fun g => ?_) (fun g => ?_)
        · have q : ¬ u.xs.length = 1 := by simp at g; omega
          exact retw [] ⟨_, rfl, tno fun e => q (by rw [(hf1 e).2]; rfl), rfl⟩ trivial rfl trivial (fun _ => rfl)
        have ul : u.xs.length = 1 := by simp at g; omega
        obtain ⟨u0, huu⟩ : ∃ u0, u.xs = [u0] := by
          match hx : u.xs, ul with
          | [x], _ => exact ⟨x, rfl⟩
        have hin : ((k : Int), u) ∈ ps := by
          refine lq.sub.subset (aget_in ?_)
          cases hq : aget qs (k : Int) with
          | none => rw [hq] at hu; rw [hu] at ul; simp [LH.nil] at ul
          | some z => rw [hq] at hu; rw [hu]; rfl
        refine d_idx (ti := tiOf tab) encWait tabOk rfl rfl rfl rfl rfl ⟨rfl, rfl⟩ (rdVia 0 rfl (.ofO (rows_in hin))) 0 rfl (by first | omega | (simp; done) | (simp; omega) | (unfold maxLen; omega) | (unfold maxLen; simp; done) | (unfold maxLen; simp; omega)) (fun ad5 => ?_)
        have hg0 : ∀ h0, u.xs[0]'h0 = u0 := fun h0 => by simp [huu]
        rw [hg0]
        refine d_bin rfl rfl rfl ⟨rfl, rfl⟩ (.bool (decide (u0 ≠ (⟨op.kind, op.on, op.arg⟩ : Waiting)))) (fun w => (run_eqGuard_agg w _ _ _ _ _ _ (by kernel_rfl))) (fun w => (neWait u0 ⟨op.kind, op.on, op.arg⟩ w)) ?_
        refine CaseB.mk (fun g => ?_) (fun g => ?_)
        · have q : ¬ u0 = (⟨op.kind, op.on, op.arg⟩ : Waiting) := by simpa using g
          exact retw [] ⟨_, rfl, tno fun e => q (by have := (hf1 e).2; rw [huu, hwant] at this; injection this), rfl⟩ trivial rfl trivial (fun _ => rfl)
        have ue : u0 = (⟨op.kind, op.on, op.arg⟩ : Waiting) := by simpa using g
        refine ⟨⟨(k + 1, adel qs (k : Int), adel ts (k : Int)), by omega, lq', lo', hnext (hgood (.inr (.inl ⟨s1, ox, by rw [huu, ue, hwant]⟩)))⟩, ?_, by simp only; omega⟩
        refine weak_mk [1, 0, 2, 3, 4, 5] ?_ ?_ ?_ ?_ ?_ rfl rfl
        · repeat (first | exact trivial | refine ⟨⟨_, rfl, (by first | exact .of rfl | exact .lit rfl | exact .of (by first | ((exact congrArg (fun z => SV.v (Value.int .i64 z)) hw))) | exact .lit (by first | ((exact congrArg (fun z => SV.v (Value.int .i64 z)) hw)))), (by first | exact trivial | exact Nat.le_of_ble_eq_true rfl | exact small1 rfl)⟩, ?_⟩)
        · repeat (first | exact trivial | refine ⟨⟨(by first | exact .head _ | exact .tail _ (.head _) | exact .tail _ (.tail _ (.head _)) | exact .tail _ (.tail _ (.tail _ (.head _))) | exact .tail _ (.tail _ (.tail _ (.tail _ (.head _)))) | exact .tail _ (.tail _ (.tail _ (.tail _ (.tail _ (.head _))))) | exact .tail _ (.tail _ (.tail _ (.tail _ (.tail _ (.tail _ (.head _)))))) | exact .tail _ (.tail _ (.tail _ (.tail _ (.tail _ (.tail _ (.tail _ (.head _))))))) | exact .tail _ (.tail _ (.tail _ (.tail _ (.tail _ (.tail _ (.tail _ (.tail _ (.head _)))))))) | exact .tail _ (.tail _ (.tail _ (.tail _ (.tail _ (.tail _ (.tail _ (.tail _ (.tail _ (.head _)))))))))), Nat.le_of_ble_eq_true rfl⟩, ?_⟩)
        · repeat (first | exact trivial | refine ⟨⟨_, rfl, (by first | exact .of rfl | exact .lit rfl | exact .of (by first | ((exact congrArg (fun z => SV.v (Value.int .i64 z)) hw))) | exact .lit (by first | ((exact congrArg (fun z => SV.v (Value.int .i64 z)) hw)))), (by first | exact trivial | exact Nat.le_of_ble_eq_true rfl | exact small1 rfl)⟩, ?_⟩)
        · repeat (first | exact trivial | refine ⟨⟨_, rfl⟩, ?_⟩)
        · repeat (first | exact trivial | refine ⟨.inl ⟨_, rfl, (by first | rfl | ((exact congrArg (fun z => SV.v (Value.int .i64 z)) hw)))⟩, ?_⟩ | refine ⟨.inr ⟨Nat.le_of_ble_eq_true rfl, rfl, rfl, rfl, rfl⟩, ?_⟩)
      · have hn2 : ¬ op.kind = 2 := by simpa using g
        refine CaseB.mk (fun g => ?_) (fun g => ?_)
        · have hk2 : op.kind = 2 ∨ op.kind = 8 := .inr (by simpa using g)
          have hwant : want op = ⟨op.kind, op.on, op.arg⟩ := by simp only [want, if_pos hk2]
          refine draw_start tabOk (by kernel_rfl) (by kernel_rfl) (by kernel_rfl) 200 [((3, 0), .v (.int .i64 op.kind)), ((3, 1), .v (.int .i64 op.on)), ((3, 2), .v (.int .i64 op.arg))] [2] [_] ⟨⟨_, rfl, rfl, (by first | exact trivial | exact Nat.le_of_ble_eq_true rfl)⟩, ⟨_, rfl, rfl, (by first | exact trivial | exact Nat.le_of_ble_eq_true rfl)⟩, ⟨_, rfl, rfl, (by first | exact trivial | exact Nat.le_of_ble_eq_true rfl)⟩, trivial⟩ ⟨⟨_, rfl⟩, ⟨_, rfl⟩, ⟨_, rfl⟩, trivial⟩ ⟨rfl, trivial⟩ rfl ?_
          refine CaseB.mk (fun g => ?_) (fun g => ?_)
          · have q : ¬ o.xs = [] := len_pos.1 g
            exact retw [] ⟨_, rfl, tno fun e => q (hf1 e).1, rfl⟩ trivial rfl trivial (fun _ => rfl)
          have ox : o.xs = [] := Classical.byContradiction fun n => by rw [len_pos.2 n] at g; cases g
          refine CaseB.mk (fun g => ?_) (fun g => ?_)
          · have q : ¬ u.xs.length = 1 := by simp at g; omega
            exact retw [] ⟨_, rfl, tno fun e => q (by rw [(hf1 e).2]; rfl), rfl⟩ trivial rfl trivial (fun _ => rfl)
          have ul : u.xs.length = 1 := by simp at g; omega
          obtain ⟨u0, huu⟩ : ∃ u0, u.xs = [u0] := by
            match hx : u.xs, ul with
            | [x], _ => exact ⟨x, rfl⟩
          have hin : ((k : Int), u) ∈ ps := by
            refine lq.sub.subset (aget_in ?_)
            cases hq : aget qs (k : Int) with
            | none => rw [hq] at hu; rw [hu] at ul; simp [LH.nil] at ul
            | some z => rw [hq] at hu; rw [hu]; rfl
          refine d_idx (ti := tiOf tab) encWait tabOk rfl rfl rfl rfl rfl ⟨rfl, rfl⟩ (rdVia 0 rfl (.ofO (rows_in hin))) 0 rfl (by first | omega | (simp; done) | (simp; omega) | (unfold maxLen; omega) | (unfold maxLen; simp; done) | (unfold maxLen; simp; omega)) (fun ad5 => ?_)
          have hg0 : ∀ h0, u.xs[0]'h0 = u0 := fun h0 => by simp [huu]
          rw [hg0]
          refine d_bin rfl rfl rfl ⟨rfl, rfl⟩ (.bool (decide (u0 ≠ (⟨op.kind, op.on, op.arg⟩ : Waiting)))) (fun w => (run_eqGuard_agg w _ _ _ _ _ _ (by kernel_rfl))) (fun w => (neWait u0 ⟨op.kind, op.on, op.arg⟩ w)) ?_
          refine CaseB.mk (fun g => ?_) (fun g => ?_)
          · have q : ¬ u0 = (⟨op.kind, op.on, op.arg⟩ : Waiting) := by simpa using g
            exact retw [] ⟨_, rfl, tno fun e => q (by have := (hf1 e).2; rw [huu, hwant] at this; injection this), rfl⟩ trivial rfl trivial (fun _ => rfl)
          have ue : u0 = (⟨op.kind, op.on, op.arg⟩ : Waiting) := by simpa using g
          refine ⟨⟨(k + 1, adel qs (k : Int), adel ts (k : Int)), by omega, lq', lo', hnext (hgood (.inr (.inl ⟨s1, ox, by rw [huu, ue, hwant]⟩)))⟩, ?_, by simp only; omega⟩
          refine weak_mk [1, 0, 2, 3, 4, 5] ?_ ?_ ?_ ?_ ?_ rfl rfl
          · repeat (first | exact trivial | refine ⟨⟨_, rfl, (by first | exact .of rfl | exact .lit rfl | exact .of (by first | ((exact congrArg (fun z => SV.v (Value.int .i64 z)) hw))) | exact .lit (by first | ((exact congrArg (fun z => SV.v (Value.int .i64 z)) hw)))), (by first | exact trivial | exact Nat.le_of_ble_eq_true rfl | exact small1 rfl)⟩, ?_⟩)
          · repeat (first | exact trivial | refine ⟨⟨(by first | exact .head _ | exact .tail _ (.head _) | exact .tail _ (.tail _ (.head _)) | exact .tail _ (.tail _ (.tail _ (.head _))) | exact .tail _ (.tail _ (.tail _ (.tail _ (.head _)))) | exact .tail _ (.tail _ (.tail _ (.tail _ (.tail _ (.head _))))) | exact .tail _ (.tail _ (.tail _ (.tail _ (.tail _ (.tail _ (.head _)))))) | exact .tail _ (.tail _ (.tail _ (.tail _ (.tail _ (.tail _ (.tail _ (.head _))))))) | exact .tail _ (.tail _ (.tail _ (.tail _ (.tail _ (.tail _ (.tail _ (.tail _ (.head _)))))))) | exact .tail _ (.tail _ (.tail _ (.tail _ (.tail _ (.tail _ (.tail _ (.tail _ (.tail _ (.head _)))))))))), Nat.le_of_ble_eq_true rfl⟩, ?_⟩)
          · repeat (first | exact trivial | refine ⟨⟨_, rfl, (by first | exact .of rfl | exact .lit rfl | exact .of (by first | ((exact congrArg (fun z => SV.v (Value.int .i64 z)) hw))) | exact .lit (by first | ((exact congrArg (fun z => SV.v (Value.int .i64 z)) hw)))), (by first | exact trivial | exact Nat.le_of_ble_eq_true rfl | exact small1 rfl)⟩, ?_⟩)
          · repeat (first | exact trivial | refine ⟨⟨_, rfl⟩, ?_⟩)
          · repeat (first | exact trivial | refine ⟨.inl ⟨_, rfl, (by first | rfl | ((exact congrArg (fun z => SV.v (Value.int .i64 z)) hw)))⟩, ?_⟩ | refine ⟨.inr ⟨Nat.le_of_ble_eq_true rfl, rfl, rfl, rfl, rfl⟩, ?_⟩)
        · have hn8 : ¬ op.kind = 8 := by simpa using g
          have hwant : want op = ⟨op.kind, op.on, 0⟩ := by simp only [want, if_neg (show ¬ (op.kind = 2 ∨ op.kind = 8) from fun h => h.elim hn2 hn8)]
          refine draw_start tabOk (by kernel_rfl) (by kernel_rfl) (by kernel_rfl) 200 [((3, 0), .v (.int .i64 op.kind)), ((3, 1), .v (.int .i64 op.on)), ((3, 2), .v (.int .i64 0))] [2] [_] ⟨⟨_, rfl, rfl, (by first | exact trivial | exact Nat.le_of_ble_eq_true rfl)⟩, ⟨_, rfl, rfl, (by first | exact trivial | exact Nat.le_of_ble_eq_true rfl)⟩, ⟨_, rfl, rfl, (by first | exact trivial | exact Nat.le_of_ble_eq_true rfl)⟩, trivial⟩ ⟨⟨_, rfl⟩, ⟨_, rfl⟩, ⟨_, rfl⟩, trivial⟩ ⟨rfl, trivial⟩ rfl ?_
          refine CaseB.mk (fun g => ?_) (fun g => ?_)
          · have q : ¬ o.xs = [] := len_pos.1 g
            exact retw [] ⟨_, rfl, tno fun e => q (hf1 e).1, rfl⟩ trivial rfl trivial (fun _ => rfl)
          have ox : o.xs = [] := Classical.byContradiction fun n => by rw [len_pos.2 n] at g; cases g
          refine CaseB.mk (fun g => ?_) (fun g => ?_)
          · have q : ¬ u.xs.length = 1 := by simp at g; omega
            exact retw [] ⟨_, rfl, tno fun e => q (by rw [(hf1 e).2]; rfl), rfl⟩ trivial rfl trivial (fun _ => rfl)
          have ul : u.xs.length = 1 := by simp at g; omega
          obtain ⟨u0, huu⟩ : ∃ u0, u.xs = [u0] := by
            match hx : u.xs, ul with
            | [x], _ => exact ⟨x, rfl⟩
          have hin : ((k : Int), u) ∈ ps := by
            refine lq.sub.subset (aget_in ?_)
            cases hq : aget qs (k : Int) with
            | none => rw [hq] at hu; rw [hu] at ul; simp [LH.nil] at ul
            | some z => rw [hq] at hu; rw [hu]; rfl
          refine d_idx (ti := tiOf tab) encWait tabOk rfl rfl rfl rfl rfl ⟨rfl, rfl⟩ (rdVia 0 rfl (.ofO (rows_in hin))) 0 rfl (by first | omega | (simp; done) | (simp; omega) | (unfold maxLen; omega) | (unfold maxLen; simp; done) | (unfold maxLen; simp; omega)) (fun ad5 => ?_)
          have hg0 : ∀ h0, u.xs[0]'h0 = u0 := fun h0 => by simp [huu]
          rw [hg0]
          refine d_bin rfl rfl rfl ⟨rfl, rfl⟩ (.bool (decide (u0 ≠ (⟨op.kind, op.on, 0⟩ : Waiting)))) (fun w => (run_eqGuard_agg w _ _ _ _ _ _ (by kernel_rfl))) (fun w => (neWait u0 ⟨op.kind, op.on, 0⟩ w)) ?_
          refine CaseB.mk (fun g => ?_) (fun g => ?_)
          · have q : ¬ u0 = (⟨op.kind, op.on, 0⟩ : Waiting) := by simpa using g
            exact retw [] ⟨_, rfl, tno fun e => q (by have := (hf1 e).2; rw [huu, hwant] at this; injection this), rfl⟩ trivial rfl trivial (fun _ => rfl)
          have ue : u0 = (⟨op.kind, op.on, 0⟩ : Waiting) := by simpa using g
          refine ⟨⟨(k + 1, adel qs (k : Int), adel ts (k : Int)), by omega, lq', lo', hnext (hgood (.inr (.inl ⟨s1, ox, by rw [huu, ue, hwant]⟩)))⟩, ?_, by simp only; omega⟩
          refine weak_mk [1, 0, 2, 3, 4, 5] ?_ ?_ ?_ ?_ ?_ rfl rfl
          · repeat (first | exact trivial | refine ⟨⟨_, rfl, (by first | exact .of rfl | exact .lit rfl | exact .of (by first | ((exact congrArg (fun z => SV.v (Value.int .i64 z)) hw))) | exact .lit (by first | ((exact congrArg (fun z => SV.v (Value.int .i64 z)) hw)))), (by first | exact trivial | exact Nat.le_of_ble_eq_true rfl | exact small1 rfl)⟩, ?_⟩)
          · repeat (first | exact trivial | refine ⟨⟨(by first | exact .head _ | exact .tail _ (.head _) | exact .tail _ (.tail _ (.head _)) | exact .tail _ (.tail _ (.tail _ (.head _))) | exact .tail _ (.tail _ (.tail _ (.tail _ (.head _)))) | exact .tail _ (.tail _ (.tail _ (.tail _ (.tail _ (.head _))))) | exact .tail _ (.tail _ (.tail _ (.tail _ (.tail _ (.tail _ (.head _)))))) | exact .tail _ (.tail _ (.tail _ (.tail _ (.tail _ (.tail _ (.tail _ (.head _))))))) | exact .tail _ (.tail _ (.tail _ (.tail _ (.tail _ (.tail _ (.tail _ (.tail _ (.head _)))))))) | exact .tail _ (.tail _ (.tail _ (.tail _ (.tail _ (.tail _ (.tail _ (.tail _ (.tail _ (.head _)))))))))), Nat.le_of_ble_eq_true rfl⟩, ?_⟩)
          · repeat (first | exact trivial | refine ⟨⟨_, rfl, (by first | exact .of rfl | exact .lit rfl | exact .of (by first | ((exact congrArg (fun z => SV.v (Value.int .i64 z)) hw))) | exact .lit (by first | ((exact congrArg (fun z => SV.v (Value.int .i64 z)) hw)))), (by first | exact trivial | exact Nat.le_of_ble_eq_true rfl | exact small1 rfl)⟩, ?_⟩)
          · repeat (first | exact trivial | refine ⟨⟨_, rfl⟩, ?_⟩)
          · repeat (first | exact trivial | refine ⟨.inl ⟨_, rfl, (by first | rfl | ((exact congrArg (fun z => SV.v (Value.int .i64 z)) hw)))⟩, ?_⟩ | refine ⟨.inr ⟨Nat.le_of_ble_eq_true rfl, rfl, rfl, rfl, rfl⟩, ?_⟩)
    have n1 : ¬ s.status[k] = 1 := by simpa using g1
    refine CaseB.mk (fun g => ?_) (fun g2 => ?_)
    · have s2 : s.status[k] = 2 := by simpa using g
      have hf2 : Fits p.pure s.pure → u.xs = [] ∧ op.kind = 4 ∧ o.xs = [op.on] := fun e => by
        rcases hfin e with h | h | h
        · rw [s2] at h; exact absurd h.1 (by decide)
        · rw [s2] at h; exact absurd h.1 (by decide)
        · exact h.2
      refine draw_start tabOk (by kernel_rfl) (by kernel_rfl) (by kernel_rfl) 200 [((2, 0), .v (.int .i64 op.kind)), ((2, 1), .v (.int .i64 op.on))] [3] [_] ⟨⟨_, rfl, rfl, (by first | exact trivial | exact Nat.le_of_ble_eq_true rfl)⟩, ⟨_, rfl, rfl, (by first | exact trivial | exact Nat.le_of_ble_eq_true rfl)⟩, trivial⟩ ⟨⟨_, rfl⟩, ⟨_, rfl⟩, trivial⟩ ⟨rfl, trivial⟩ rfl ?_
      refine CaseB.mk (fun g => ?_) (fun g => ?_)
      · have q : ¬ u.xs = [] := len_pos.1 g
        exact retw [] ⟨_, rfl, tno fun e => q (hf2 e).1, rfl⟩ trivial rfl trivial (fun _ => rfl)
      have ux : u.xs = [] := Classical.byContradiction fun n => by rw [len_pos.2 n] at g; cases g
      refine CaseB.mk (fun g => ?_) (fun g => ?_)
      · have q : ¬ op.kind = 4 := by simpa using g
        exact retw [] ⟨_, rfl, tno fun e => q (hf2 e).2.1, rfl⟩ trivial rfl trivial (fun _ => rfl)
      have k4 : op.kind = 4 := by simpa using g
      refine CaseB.mk (fun g => ?_) (fun g => ?_)
      · have q : ¬ o.xs.length = 1 := by simp at g; omega
        exact retw [] ⟨_, rfl, tno fun e => q (by rw [(hf2 e).2.2]; rfl), rfl⟩ trivial rfl trivial (fun _ => rfl)
      have ol : o.xs.length = 1 := by simp at g; omega
      obtain ⟨o0, hoo⟩ : ∃ o0, o.xs = [o0] := by
        match hx : o.xs, ol with
        | [x], _ => exact ⟨x, rfl⟩
      have hin : ((k : Int), o) ∈ os := by
        refine lo.sub.subset (aget_in ?_)
        cases hq : aget ts (k : Int) with
        | none => rw [hq] at ho; rw [ho] at ol; simp [LH.nil] at ol
        | some z => rw [hq] at ho; rw [ho]; rfl
      refine d_idx (ti := tiOf tab) encInt tabOk rfl rfl rfl rfl rfl ⟨rfl, rfl⟩ (rdVia 0 rfl (.ofO (rows_in hin))) 0 rfl (by first | omega | (simp; done) | (simp; omega) | (unfold maxLen; omega) | (unfold maxLen; simp; done) | (unfold maxLen; simp; omega)) (fun ad5 => ?_)
      have hg0 : ∀ h0, o.xs[0]'h0 = o0 := fun h0 => by simp [hoo]
      rw [hg0]
      refine CaseB.mk (fun g => ?_) (fun g => ?_)
      · have q : ¬ o0 = op.on := by simpa using g
        exact retw [] ⟨_, rfl, tno fun e => q (by have := (hf2 e).2.2; rw [hoo] at this; injection this), rfl⟩ trivial rfl trivial (fun _ => rfl)
      have oe : o0 = op.on := by simpa using g
      refine ⟨⟨(k + 1, adel qs (k : Int), adel ts (k : Int)), by omega, lq', lo', hnext (hgood (.inr (.inr ⟨s2, ux, k4, by rw [hoo, oe]⟩)))⟩, ?_, by simp only; omega⟩
      refine weak_mk [1, 0, 2, 3, 4, 5] ?_ ?_ ?_ ?_ ?_ rfl rfl
      · repeat (first | exact trivial | refine ⟨⟨_, rfl, (by first | exact .of rfl | exact .lit rfl | exact .of (by first | ((exact congrArg (fun z => SV.v (Value.int .i64 z)) hw))) | exact .lit (by first | ((exact congrArg (fun z => SV.v (Value.int .i64 z)) hw)))), (by first | exact trivial | exact Nat.le_of_ble_eq_true rfl | exact small1 rfl)⟩, ?_⟩)
      · repeat (first | exact trivial | refine ⟨⟨(by first | exact .head _ | exact .tail _ (.head _) | exact .tail _ (.tail _ (.head _)) | exact .tail _ (.tail _ (.tail _ (.head _))) | exact .tail _ (.tail _ (.tail _ (.tail _ (.head _)))) | exact .tail _ (.tail _ (.tail _ (.tail _ (.tail _ (.head _))))) | exact .tail _ (.tail _ (.tail _ (.tail _ (.tail _ (.tail _ (.head _)))))) | exact .tail _ (.tail _ (.tail _ (.tail _ (.tail _ (.tail _ (.tail _ (.head _))))))) | exact .tail _ (.tail _ (.tail _ (.tail _ (.tail _ (.tail _ (.tail _ (.tail _ (.head _)))))))) | exact .tail _ (.tail _ (.tail _ (.tail _ (.tail _ (.tail _ (.tail _ (.tail _ (.tail _ (.head _)))))))))), Nat.le_of_ble_eq_true rfl⟩, ?_⟩)
      · repeat (first | exact trivial | refine ⟨⟨_, rfl, (by first | exact .of rfl | exact .lit rfl | exact .of (by first | ((exact congrArg (fun z => SV.v (Value.int .i64 z)) hw))) | exact .lit (by first | ((exact congrArg (fun z => SV.v (Value.int .i64 z)) hw)))), (by first | exact trivial | exact Nat.le_of_ble_eq_true rfl | exact small1 rfl)⟩, ?_⟩)
      · repeat (first | exact trivial | refine ⟨⟨_, rfl⟩, ?_⟩)
      · repeat (first | exact trivial | refine ⟨.inl ⟨_, rfl, (by first | rfl | ((exact congrArg (fun z => SV.v (Value.int .i64 z)) hw)))⟩, ?_⟩ | refine ⟨.inr ⟨Nat.le_of_ble_eq_true rfl, rfl, rfl, rfl, rfl⟩, ?_⟩)
    have n2 : ¬ s.status[k] = 2 := by simpa using g2
    exact retw [] ⟨_, rfl, tno fun e => (by rcases hfin e with h | h | h; exact n0 h.1; exact n1 h.1; exact n2 h.1), rfl⟩ trivial rfl trivial (fun _ => rfl)

end Go.Proofs.Ytjkkoonennpceaa

namespace Go.Proofs.Ytjkkoonennpceaa

open Go Go.Sx Go.RowKit

def evReady (i : Nat) (x : Int) : List Int := if x = 0 ∨ x = 2 then [(i : Int)] else []

/-- The threads that can make a step. -/
def readyM (s : State) : List Int := if s.fault = 0 then evL evReady 0 s.status else []

theorem readyL_len (xs : List Int) : (evL evReady 0 xs).length ≤ xs.length := by
  have := evL_len (f := evReady) (C := 1) (i := 0) (xs := xs) fun i x _ => by unfold evReady; split <;> simp
  omega

set_option maxHeartbeats 4000000 in
set_option maxRecDepth 100000 in
theorem ready_c (s : StateH) (w : World) (h : At w [fR (stateO s)]) (hb : s.status.length ≤ 1048576) :
    Calls Try.prog 38 #[stateV s] w (Ret w fun v L => ∃ y : Sl, v = y.val (readyM s.pure).length ∧ L = [own y 3 cInt 1 (readyM s.pure)]) := by
  refine calls1 Try.func38 rfl tabOk w _ rfl _ rfl _ h ⟨rfl, rfl, trivial⟩ _ (by decide) ?_
  refine CaseB.mk (fun g => ?_) (fun g => ?_)
  · have n : ¬ s.fault = 0 := by simpa using g
    have e : readyM s.pure = [] := if_neg n
    rw [e]
    exact retw [90] ⟨⟨none, 0⟩, rfl, rfl⟩ ⟨.inr ⟨Nat.le_of_ble_eq_true rfl, rfl, rfl, rfl, rfl⟩, trivial⟩ rfl ⟨rfl, trivial⟩ (fun _ => rfl)
  have f0 : s.fault = 0 := by simpa using g
  have e : readyM s.pure = evL evReady 0 s.status := if_pos f0
  rw [e]
  refine LoopW.mk ⟨{ q : Nat × Sl × List Int // q.1 ≤ s.status.length ∧ q.2.2 = evL evReady 0 (s.status.take q.1) },
    fun q => .mk [(1, .p 0 0), (3, .v (q.1.2.1.val q.1.2.2.length)), (10, .v (s.h1.val s.status.length)), (11, .v (.int .i64 (s.status.length : Int))), (12, .v (.int .i64 (q.1.1 : Int)))] 1 0 [(0, 34, 9)] [((0, 0), .v (s.h0.val s.places.length))] [own q.1.2.1 3 cInt 1 q.1.2.2, fR (stateO s)],
    fun q => s.status.length - q.1.1, ⟨(0, ⟨none, 0⟩, []), Nat.zero_le _, rfl⟩, ?_, ?_⟩
  · refine weak_mk [90, 0] ?_ ?_ ?_ ?_ ?_ rfl rfl
    · repeat (first | exact trivial | refine ⟨⟨_, rfl, (by first | exact .of rfl | exact .lit rfl | exact .of (by first | (rfl)) | exact .lit (by first | (rfl))), (by first | exact trivial | exact Nat.le_of_ble_eq_true rfl | exact small1 rfl)⟩, ?_⟩)
    · repeat (first | exact trivial | refine ⟨⟨(by first | exact .head _ | exact .tail _ (.head _) | exact .tail _ (.tail _ (.head _)) | exact .tail _ (.tail _ (.tail _ (.head _))) | exact .tail _ (.tail _ (.tail _ (.tail _ (.head _)))) | exact .tail _ (.tail _ (.tail _ (.tail _ (.tail _ (.head _))))) | exact .tail _ (.tail _ (.tail _ (.tail _ (.tail _ (.tail _ (.head _)))))) | exact .tail _ (.tail _ (.tail _ (.tail _ (.tail _ (.tail _ (.tail _ (.head _))))))) | exact .tail _ (.tail _ (.tail _ (.tail _ (.tail _ (.tail _ (.tail _ (.tail _ (.head _)))))))) | exact .tail _ (.tail _ (.tail _ (.tail _ (.tail _ (.tail _ (.tail _ (.tail _ (.tail _ (.head _)))))))))), Nat.le_of_ble_eq_true rfl⟩, ?_⟩)
    · repeat (first | exact trivial | refine ⟨⟨_, rfl, (by first | exact .of rfl | exact .lit rfl | exact .of (by first | (rfl)) | exact .lit (by first | (rfl))), (by first | exact trivial | exact Nat.le_of_ble_eq_true rfl | exact small1 rfl)⟩, ?_⟩)
    · repeat (first | exact trivial | refine ⟨⟨_, rfl⟩, ?_⟩)
    · repeat (first | exact trivial | refine ⟨.inl ⟨_, rfl, (by first | rfl | (rfl))⟩, ?_⟩ | refine ⟨.inr ⟨Nat.le_of_ble_eq_true rfl, rfl, rfl, rfl, rfl⟩, ?_⟩)
  rintro ⟨⟨k, y, xs⟩, hk, hx⟩
  simp only at hk hx
  refine CaseB.mk (fun g => ?_) (fun g => ?_)
  · have hlt : k < s.status.length := by simpa using g
    have hw := e_succ k _ hlt (by omega)
    have hsucc := evL_succ evReady s.status hlt
    have hl : xs.length ≤ 1048576 := by have := readyL_len (s.status.take k); rw [← hx] at this; simp at this; omega
    refine stop_idx encInt tabOk rfl rfl rfl rfl rfl ⟨rfl, rfl⟩ (rdVia 1 rfl (.ofR (stateO_status s))) k rfl (by first | omega | (simp; done) | (simp; omega) | (unfold maxLen; omega) | (unfold maxLen; simp; done) | (unfold maxLen; simp; omega)) (fun ad => ?_)
    refine CaseB.mk (fun g => ?_) (fun g0 => ?_)
    · have c : s.status[k] = 0 ∨ s.status[k] = 2 := .inl (by simpa using g)
      refine AllSl.mk fun b => ?_
      refine stop_app encInt 1 tabOk (ys := [(k : Int)]) rfl rfl rfl rfl rfl rfl rfl rfl rfl (by decide) ⟨rfl, rfl⟩ rfl (by first | exact rdAt 0 rfl | exact rdOwnAt 0 rfl | exact rdAt 1 rfl | exact rdOwnAt 1 rfl | exact rdAt 2 rfl | exact rdOwnAt 2 rfl | exact rdAt 3 rfl | exact rdOwnAt 3 rfl | exact rdAt 4 rfl | exact rdOwnAt 4 rfl | exact rdAt 5 rfl | exact rdOwnAt 5 rfl | exact rdAt 6 rfl | exact rdOwnAt 6 rfl | exact rdAt 7 rfl | exact rdOwnAt 7 rfl | exact rdAt 8 rfl | exact rdOwnAt 8 rfl | exact rdAt 9 rfl | exact rdOwnAt 9 rfl | exact rdAt 10 rfl | exact rdOwnAt 10 rfl | exact rdAt 11 rfl | exact rdOwnAt 11 rfl | exact rdAt 12 rfl | exact rdOwnAt 12 rfl | exact rdAt 13 rfl | exact rdOwnAt 13 rfl | exact rdAt 14 rfl | exact rdOwnAt 14 rfl | exact rdAt 15 rfl | exact rdOwnAt 15 rfl | exact rdAt 16 rfl | exact rdOwnAt 16 rfl | exact rdAt 17 rfl | exact rdOwnAt 17 rfl | exact rdAt 18 rfl | exact rdOwnAt 18 rfl | exact rdAt 19 rfl | exact rdOwnAt 19 rfl | exact rdAt 20 rfl | exact rdOwnAt 20 rfl | exact rdAt 21 rfl | exact rdOwnAt 21 rfl | exact rdAt 22 rfl | exact rdOwnAt 22 rfl | exact rdAt 23 rfl | exact rdOwnAt 23 rfl) (by first | omega | (simp; done) | (simp; omega) | (unfold maxLen; omega) | (unfold maxLen; simp; done) | (unfold maxLen; simp; omega)) (by first | omega | (simp; done) | (simp; omega) | (unfold maxLen; omega) | (unfold maxLen; simp; done) | (unfold maxLen; simp; omega)) (fun z => ?_)
      refine ⟨⟨(k + 1, z, xs ++ [(k : Int)]), by omega, by simp only [hsucc, evReady, if_pos c, hx]⟩, ?_, by simp only; omega⟩
      refine weak_mk [0, 2] ?_ ?_ ?_ ?_ ?_ rfl rfl
      · repeat (first | exact trivial | refine ⟨⟨_, rfl, (by first | exact .of rfl | exact .lit rfl | exact .of (by first | ((exact congrArg (fun z => SV.v (Value.int .i64 z)) hw))) | exact .lit (by first | ((exact congrArg (fun z => SV.v (Value.int .i64 z)) hw)))), (by first | exact trivial | exact Nat.le_of_ble_eq_true rfl | exact small1 rfl)⟩, ?_⟩)
      · repeat (first | exact trivial | refine ⟨⟨(by first | exact .head _ | exact .tail _ (.head _) | exact .tail _ (.tail _ (.head _)) | exact .tail _ (.tail _ (.tail _ (.head _))) | exact .tail _ (.tail _ (.tail _ (.tail _ (.head _)))) | exact .tail _ (.tail _ (.tail _ (.tail _ (.tail _ (.head _))))) | exact .tail _ (.tail _ (.tail _ (.tail _ (.tail _ (.tail _ (.head _)))))) | exact .tail _ (.tail _ (.tail _ (.tail _ (.tail _ (.tail _ (.tail _ (.head _))))))) | exact .tail _ (.tail _ (.tail _ (.tail _ (.tail _ (.tail _ (.tail _ (.tail _ (.head _)))))))) | exact .tail _ (.tail _ (.tail _ (.tail _ (.tail _ (.tail _ (.tail _ (.tail _ (.tail _ (.head _)))))))))), Nat.le_of_ble_eq_true rfl⟩, ?_⟩)
      · repeat (first | exact trivial | refine ⟨⟨_, rfl, (by first | exact .of rfl | exact .lit rfl | exact .of (by first | ((exact congrArg (fun z => SV.v (Value.int .i64 z)) hw))) | exact .lit (by first | ((exact congrArg (fun z => SV.v (Value.int .i64 z)) hw)))), (by first | exact trivial | exact Nat.le_of_ble_eq_true rfl | exact small1 rfl)⟩, ?_⟩)
      · repeat (first | exact trivial | refine ⟨⟨_, rfl⟩, ?_⟩)
      · repeat (first | exact trivial | refine ⟨.inl ⟨_, rfl, (by first | rfl | ((exact congrArg (fun z => SV.v (Value.int .i64 z)) hw)))⟩, ?_⟩ | refine ⟨.inr ⟨Nat.le_of_ble_eq_true rfl, rfl, rfl, rfl, rfl⟩, ?_⟩)
    have n0 : ¬ s.status[k] = 0 := by simpa using g0
    refine CaseB.mk (fun g => ?_) (fun g => ?_)
    · have c : s.status[k] = 0 ∨ s.status[k] = 2 := .inr (by simpa using g)
      refine AllSl.mk fun b => ?_
      refine stop_app encInt 1 tabOk (ys := [(k : Int)]) rfl rfl rfl rfl rfl rfl rfl rfl rfl (by decide) ⟨rfl, rfl⟩ rfl (by first | exact rdAt 0 rfl | exact rdOwnAt 0 rfl | exact rdAt 1 rfl | exact rdOwnAt 1 rfl | exact rdAt 2 rfl | exact rdOwnAt 2 rfl | exact rdAt 3 rfl | exact rdOwnAt 3 rfl | exact rdAt 4 rfl | exact rdOwnAt 4 rfl | exact rdAt 5 rfl | exact rdOwnAt 5 rfl | exact rdAt 6 rfl | exact rdOwnAt 6 rfl | exact rdAt 7 rfl | exact rdOwnAt 7 rfl | exact rdAt 8 rfl | exact rdOwnAt 8 rfl | exact rdAt 9 rfl | exact rdOwnAt 9 rfl | exact rdAt 10 rfl | exact rdOwnAt 10 rfl | exact rdAt 11 rfl | exact rdOwnAt 11 rfl | exact rdAt 12 rfl | exact rdOwnAt 12 rfl | exact rdAt 13 rfl | exact rdOwnAt 13 rfl | exact rdAt 14 rfl | exact rdOwnAt 14 rfl | exact rdAt 15 rfl | exact rdOwnAt 15 rfl | exact rdAt 16 rfl | exact rdOwnAt 16 rfl | exact rdAt 17 rfl | exact rdOwnAt 17 rfl | exact rdAt 18 rfl | exact rdOwnAt 18 rfl | exact rdAt 19 rfl | exact rdOwnAt 19 rfl | exact rdAt 20 rfl | exact rdOwnAt 20 rfl | exact rdAt 21 rfl | exact rdOwnAt 21 rfl | exact rdAt 22 rfl | exact rdOwnAt 22 rfl | exact rdAt 23 rfl | exact rdOwnAt 23 rfl) (by first | omega | (simp; done) | (simp; omega) | (unfold maxLen; omega) | (unfold maxLen; simp; done) | (unfold maxLen; simp; omega)) (by first | omega | (simp; done) | (simp; omega) | (unfold maxLen; omega) | (unfold maxLen; simp; done) | (unfold maxLen; simp; omega)) (fun z => ?_)
      refine ⟨⟨(k + 1, z, xs ++ [(k : Int)]), by omega, by simp only [hsucc, evReady, if_pos c, hx]⟩, ?_, by simp only; omega⟩
      refine weak_mk [0, 2] ?_ ?_ ?_ ?_ ?_ rfl rfl
      · repeat (first | exact trivial | refine ⟨⟨_, rfl, (by first | exact .of rfl | exact .lit rfl | exact .of (by first | ((exact congrArg (fun z => SV.v (Value.int .i64 z)) hw))) | exact .lit (by first | ((exact congrArg (fun z => SV.v (Value.int .i64 z)) hw)))), (by first | exact trivial | exact Nat.le_of_ble_eq_true rfl | exact small1 rfl)⟩, ?_⟩)
      · repeat (first | exact trivial | refine ⟨⟨(by first | exact .head _ | exact .tail _ (.head _) | exact .tail _ (.tail _ (.head _)) | exact .tail _ (.tail _ (.tail _ (.head _))) | exact .tail _ (.tail _ (.tail _ (.tail _ (.head _)))) | exact .tail _ (.tail _ (.tail _ (.tail _ (.tail _ (.head _))))) | exact .tail _ (.tail _ (.tail _ (.tail _ (.tail _ (.tail _ (.head _)))))) | exact .tail _ (.tail _ (.tail _ (.tail _ (.tail _ (.tail _ (.tail _ (.head _))))))) | exact .tail _ (.tail _ (.tail _ (.tail _ (.tail _ (.tail _ (.tail _ (.tail _ (.head _)))))))) | exact .tail _ (.tail _ (.tail _ (.tail _ (.tail _ (.tail _ (.tail _ (.tail _ (.tail _ (.head _)))))))))), Nat.le_of_ble_eq_true rfl⟩, ?_⟩)
      · repeat (first | exact trivial | refine ⟨⟨_, rfl, (by first | exact .of rfl | exact .lit rfl | exact .of (by first | ((exact congrArg (fun z => SV.v (Value.int .i64 z)) hw))) | exact .lit (by first | ((exact congrArg (fun z => SV.v (Value.int .i64 z)) hw)))), (by first | exact trivial | exact Nat.le_of_ble_eq_true rfl | exact small1 rfl)⟩, ?_⟩)
      · repeat (first | exact trivial | refine ⟨⟨_, rfl⟩, ?_⟩)
      · repeat (first | exact trivial | refine ⟨.inl ⟨_, rfl, (by first | rfl | ((exact congrArg (fun z => SV.v (Value.int .i64 z)) hw)))⟩, ?_⟩ | refine ⟨.inr ⟨Nat.le_of_ble_eq_true rfl, rfl, rfl, rfl, rfl⟩, ?_⟩)
    have n2 : ¬ s.status[k] = 2 := by simpa using g
    refine ⟨⟨(k + 1, y, xs), by omega, by simp only [hsucc, evReady, if_neg (show ¬ (s.status[k] = 0 ∨ s.status[k] = 2) from fun h => h.elim n0 n2), hx, List.append_nil]⟩, ?_, by simp only; omega⟩
    refine weak_mk [0, 1] ?_ ?_ ?_ ?_ ?_ rfl rfl
    · repeat (first | exact trivial | refine ⟨⟨_, rfl, (by first | exact .of rfl | exact .lit rfl | exact .of (by first | ((exact congrArg (fun z => SV.v (Value.int .i64 z)) hw))) | exact .lit (by first | ((exact congrArg (fun z => SV.v (Value.int .i64 z)) hw)))), (by first | exact trivial | exact Nat.le_of_ble_eq_true rfl | exact small1 rfl)⟩, ?_⟩)
    · repeat (first | exact trivial | refine ⟨⟨(by first | exact .head _ | exact .tail _ (.head _) | exact .tail _ (.tail _ (.head _)) | exact .tail _ (.tail _ (.tail _ (.head _))) | exact .tail _ (.tail _ (.tail _ (.tail _ (.head _)))) | exact .tail _ (.tail _ (.tail _ (.tail _ (.tail _ (.head _))))) | exact .tail _ (.tail _ (.tail _ (.tail _ (.tail _ (.tail _ (.head _)))))) | exact .tail _ (.tail _ (.tail _ (.tail _ (.tail _ (.tail _ (.tail _ (.head _))))))) | exact .tail _ (.tail _ (.tail _ (.tail _ (.tail _ (.tail _ (.tail _ (.tail _ (.head _)))))))) | exact .tail _ (.tail _ (.tail _ (.tail _ (.tail _ (.tail _ (.tail _ (.tail _ (.tail _ (.head _)))))))))), Nat.le_of_ble_eq_true rfl⟩, ?_⟩)
    · repeat (first | exact trivial | refine ⟨⟨_, rfl, (by first | exact .of rfl | exact .lit rfl | exact .of (by first | ((exact congrArg (fun z => SV.v (Value.int .i64 z)) hw))) | exact .lit (by first | ((exact congrArg (fun z => SV.v (Value.int .i64 z)) hw)))), (by first | exact trivial | exact Nat.le_of_ble_eq_true rfl | exact small1 rfl)⟩, ?_⟩)
    · repeat (first | exact trivial | refine ⟨⟨_, rfl⟩, ?_⟩)
    · repeat (first | exact trivial | refine ⟨.inl ⟨_, rfl, (by first | rfl | ((exact congrArg (fun z => SV.v (Value.int .i64 z)) hw)))⟩, ?_⟩ | refine ⟨.inr ⟨Nat.le_of_ble_eq_true rfl, rfl, rfl, rfl, rfl⟩, ?_⟩)
  have hge : s.status.length ≤ k := by simpa using g
  rw [List.take_of_length_le hge] at hx
  subst hx
  exact retw [0] ⟨y, rfl, rfl⟩ ⟨.inl ⟨_, rfl, rfl⟩, trivial⟩ rfl ⟨rfl, trivial⟩ (fun _ => rfl)

set_option maxRecDepth 100000 in
theorem allDone1_c (x : Int) (w : World) : Calls Try.prog 55 #[.int .i64 x] w (Ret w fun v L => v = .bool (decide (x ≠ 3)) ∧ L = []) := by
  refine calls1 Try.func55 rfl tabOk w _ rfl _ rfl [] trivial trivial _ (by decide) ?_
  exact retw [] ⟨congrArg Value.bool (show (x != 3) = decide (x ≠ 3) by by_cases h : x = 3 <;> simp [h]), rfl⟩ trivial rfl trivial (fun _ => rfl)

set_option maxRecDepth 100000 in
theorem allDone_c (s : StateH) (w : World) (h : At w [fR (stateO s)]) (hb : s.status.length ≤ 1048576) :
    Calls Try.prog 39 #[stateV s] w (Tells w (∀ x ∈ s.status, x = 3)) := by
  refine calls1 Try.func39 rfl tabOk w _ rfl _ rfl _ h ⟨rfl, rfl, trivial⟩ _ (by decide) ?_
  refine stop_call _ cl47 rfl rfl rfl rfl ⟨rfl, rfl⟩ (fun A w hW => containsFunc_c (fv := 55) (cap := #[]) (q := fun x => decide (x ≠ 3)) (G := []) cl55 (fun x w h => allDone1_c x w) s.h1 s.status w ⟨hW.get 0 rfl (.ofR (stateO_status s)), fB_of (fun g hg => by cases hg), trivial⟩ (by omega)) ?_
  rintro v L ⟨b, rfl, hbb, rfl⟩
  refine retw [] ⟨_, rfl, ?_, rfl⟩ trivial rfl trivial (fun _ => rfl)
  cases b with
  | true =>
    obtain ⟨x, hx, hne⟩ := hbb.1 rfl
    exact ⟨fun e => (by cases e), fun e => absurd (e x hx) (by simpa using hne)⟩
  | false =>
    refine ⟨fun _ x hx => Classical.byContradiction fun n => ?_, fun _ => rfl⟩
    have := hbb.2 ⟨x, hx, by simpa using n⟩
    cases this

end Go.Proofs.Ytjkkoonennpceaa

namespace Go.Proofs.Ytjkkoonennpceaa

open Go Go.Sx Go.RowKit

def Chan.zero : Chan := ⟨0, [], [], [], false⟩

def Chan.send (m : Chan) (t v : Int) : Chan × List Int × Bool × Bool :=
  if m.Valid ∧ m.closed = false ∧ isThread t = true ∧ isValue v = true ∧ ¬ t ∈ m.threads then
    if h : 0 < m.getters.length then ({ m with getters := m.getters.drop 1 }, [m.getters[0]], true, true)
    else if (m.items.length : Int) < m.room then ({ m with items := m.items ++ [v] }, [], true, true)
    else ({ m with senders := m.senders ++ [⟨t, v⟩] }, [], false, true)
  else (.zero, [], false, false)

end Go.Proofs.Ytjkkoonennpceaa

namespace Go.Proofs.Ytjkkoonennpceaa

open Go Go.Sx Go.RowKit

def Chan.gItems (m : Chan) : List Int := m.items ++ (m.senders.take 1).map Letter.v

def Chan.gWho (m : Chan) : List Int := (m.senders.take 1).map Letter.t

def Chan.get (m : Chan) (t : Int) : Chan × Int × Int × List Int × Bool :=
  if m.Valid ∧ isThread t = true ∧ ¬ t ∈ m.threads then
    if 0 < m.gItems.length then ({ m with items := m.gItems.drop 1, senders := m.senders.drop 1 }, m.gItems.headD 0, 1, m.gWho, true)
    else if m.closed = true then ({ m with items := [], senders := [] }, 0, 2, [], true)
    else ({ m with items := [], senders := [], getters := m.getters ++ [t] }, 0, 0, [], true)
  else (.zero, 0, 0, [], false)

theorem head0 {xs : List Int} (h : 0 < xs.length) : xs.headD 0 = xs[0] := by
  cases xs with
  | nil => simp at h
  | cons x r => rfl

theorem take1 {α : Type} {xs : List α} (h : 0 < xs.length) : xs.take 1 = [xs[0]] := by
  cases xs with
  | nil => simp at h
  | cons x r => rfl

end Go.Proofs.Ytjkkoonennpceaa

namespace Go.Proofs.Ytjkkoonennpceaa

open Go Go.Sx Go.RowKit

def Chan.close (m : Chan) : Chan × List Int × Bool :=
  if m.Valid ∧ m.closed = false ∧ m.senders = [] then ({ m with senders := [], getters := [], closed := true }, m.getters, true) else (.zero, [], false)

end Go.Proofs.Ytjkkoonennpceaa

namespace Go.Proofs.Ytjkkoonennpceaa

open Go Go.Sx Go.RowKit

def Chan.small8 (m : Chan) : Prop := m.items.length ≤ 8 ∧ m.senders.length ≤ 8 ∧ m.getters.length ≤ 8

theorem Chan.small8.small {m : Chan} (h : m.small8) : m.small := ⟨by have := h.1; omega, by have := h.2.1; omega, by have := h.2.2; omega⟩

theorem Chan.Valid.len {m : Chan} (h : m.Valid) : m.items.length ≤ 4 ∧ m.senders.length + m.getters.length ≤ 6 := by
  have h1 := distinct_len h.di
  have := h.it
  have := h.r1
  simp only [Chan.threads, List.length_append, List.length_map] at h1
  omega

end Go.Proofs.Ytjkkoonennpceaa

namespace Go.Proofs.Ytjkkoonennpceaa

open Go Go.Sx Go.RowKit

theorem distinct_sub {xs ys : List Int} (h : ys.Sublist xs) (hd : distinct xs = true) : distinct ys = true := by
  simp only [distinct, decide_eq_true_eq] at hd ⊢
  exact ⟨hd.1.sublist h, fun x hx => hd.2 x (h.subset hx)⟩

theorem distinct_snoc {xs : List Int} {t : Int} (hd : distinct xs = true) (h1 : isThread t = true) (h2 : ¬ t ∈ xs) : distinct (xs ++ [t]) = true := by
  simp only [distinct, decide_eq_true_eq] at hd ⊢
  refine ⟨?_, fun x hx => ?_⟩
  · rw [List.nodup_append]
    refine ⟨hd.1, by simp, fun a ha b hb => ?_⟩
    simp at hb; subst hb
    rintro rfl; exact h2 ha
  · rcases List.mem_append.1 hx with hx | hx
    · exact hd.2 x hx
    · simp at hx; subst hx; exact h1

theorem send_ok {m : Chan} {t u : Int} (h : (m.send t u).2.2.2 = true) : m.Valid ∧ m.closed = false ∧ isThread t = true ∧ isValue u = true ∧ ¬ t ∈ m.threads := by
  rw [Chan.send] at h
  split at h
  · assumption
  · cases h

theorem get_ok {m : Chan} {t : Int} (h : (m.get t).2.2.2.2 = true) : m.Valid ∧ isThread t = true ∧ ¬ t ∈ m.threads := by
  rw [Chan.get] at h
  split at h
  · assumption
  · cases h

theorem close_ok {m : Chan} (h : m.close.2.2 = true) : m.Valid ∧ m.closed = false ∧ m.senders = [] := by
  rw [Chan.close] at h
  split at h
  · assumption
  · cases h

theorem send_valid {m : Chan} {t u : Int} (h : (m.send t u).2.2.2 = true) : (m.send t u).1.Valid := by
  have hc := send_ok h
  obtain ⟨hv, h2, h3, h4, h5⟩ := hc
  rw [Chan.send, if_pos ⟨hv, h2, h3, h4, h5⟩]
  split
  · rename_i hg
    have hg' : m.getters ≠ [] := fun e => by rw [e] at hg; simp at hg
    have hs : m.senders = [] := Classical.byContradiction fun hn => hg' (hv.se hn).2.1
    refine ⟨hv.r0, hv.r1, hv.it, hv.iv, hv.sv, distinct_sub ?_ hv.di, fun hn => absurd hs hn, fun _ => hv.ge hg'⟩
    exact List.Sublist.append (List.Sublist.refl _) (List.drop_sublist _ _)
  · rename_i hg
    have hg' : m.getters = [] := by simpa using hg
    split
    · rename_i hi
      have hs : m.senders = [] := Classical.byContradiction fun hn => by have := (hv.se hn).1; omega
      refine ⟨hv.r0, hv.r1, by simp; omega, fun x hx => ?_, hv.sv, hv.di, fun hn => absurd hs hn, fun hn => absurd hg' hn⟩
      rcases List.mem_append.1 hx with hx | hx
      · exact hv.iv x hx
      · simp at hx; subst hx; exact h4
    · rename_i hi
      have := hv.it
      refine ⟨hv.r0, hv.r1, hv.it, hv.iv, fun x hx => ?_, ?_, fun _ => ⟨by simp; omega, hg', h2⟩, fun hn => absurd hg' hn⟩
      · rcases List.mem_append.1 hx with hx | hx
        · exact hv.sv x hx
        · simp at hx; subst hx; exact h4
      · have e : (Chan.threads { m with senders := m.senders ++ [⟨t, u⟩] }) = m.threads ++ [t] := by simp [Chan.threads, hg']
        rw [e]
        exact distinct_snoc hv.di h3 h5

theorem get_valid {m : Chan} {t : Int} (h : (m.get t).2.2.2.2 = true) : (m.get t).1.Valid := by
  obtain ⟨hv, h3, h5⟩ := get_ok h
  rw [Chan.get, if_pos ⟨hv, h3, h5⟩]
  split
  · rename_i hI
    have hg : m.getters = [] := Classical.byContradiction fun hn => by
      have h1 := (hv.ge hn).1
      have hs : m.senders = [] := Classical.byContradiction fun hs => hn (hv.se hs).2.1
      rw [Chan.gItems, h1, hs] at hI
      simp at hI
    have hall : ∀ x ∈ m.gItems, isValue x = true := fun x hx => by
      rcases List.mem_append.1 hx with hx | hx
      · exact hv.iv x hx
      · obtain ⟨l, hl, rfl⟩ := List.mem_map.1 hx
        exact hv.sv l (List.mem_of_mem_take hl)
    have hlen : ((m.gItems.drop 1).length : Int) ≤ m.room ∧ (m.senders ≠ [] → ((m.gItems.drop 1).length : Int) = m.room) := by
      have := hv.it
      cases hs : m.senders with
      | nil => simp [Chan.gItems, hs]; omega
      | cons a r => have := (hv.se (by simp [hs])).1; simp [Chan.gItems, hs]; omega
    refine ⟨hv.r0, hv.r1, hlen.1, fun x hx => hall x (List.mem_of_mem_drop hx), fun l hl => hv.sv l (List.mem_of_mem_drop hl), distinct_sub ?_ hv.di, fun hn => ?_, fun hn => absurd hg hn⟩
    · exact List.Sublist.append (List.Sublist.map _ (List.drop_sublist _ _)) (List.Sublist.refl _)
    · have hs : m.senders ≠ [] := fun e => by rw [e] at hn; simp at hn
      exact ⟨hlen.2 hs, hg, (hv.se hs).2.2⟩
  · rename_i hI
    have hI2 : m.items = [] ∧ m.senders = [] := by
      simp [Chan.gItems] at hI
      refine ⟨hI.1, ?_⟩
      cases hs : m.senders with
      | nil => rfl
      | cons a r => simp [hs] at hI
    have e : ({ m with items := [], senders := [] } : Chan) = m := by rw [← hI2.1]; cases m; simp at hI2; simp [hI2]
    split
    · rw [e]; exact hv
    · rename_i hcl
      have hcl' : m.closed = false := by simpa using hcl
      refine ⟨hv.r0, hv.r1, by have := hv.r0; simpa using this, by simp, by simp, ?_, fun hn => absurd rfl hn, fun _ => ⟨rfl, hcl'⟩⟩
      have e2 : (Chan.threads { m with items := [], senders := [], getters := m.getters ++ [t] }) = m.threads ++ [t] := by simp [Chan.threads, hI2.2]
      rw [e2]
      exact distinct_snoc hv.di h3 h5

theorem close_valid {m : Chan} (h : m.close.2.2 = true) : m.close.1.Valid := by
  obtain ⟨hv, h1, h2⟩ := close_ok h
  rw [Chan.close, if_pos ⟨hv, h1, h2⟩]
  refine ⟨hv.r0, hv.r1, hv.it, hv.iv, by simp, ?_, fun hn => absurd rfl hn, fun hn => absurd rfl hn⟩
  simp [Chan.threads, distinct]

end Go.Proofs.Ytjkkoonennpceaa

namespace Go.Proofs.Ytjkkoonennpceaa

open Go Go.Sx Go.RowKit

/-- A thread's status behind an operation. -/
def restM (p : Prog) (t : Nat) (a : Int) : Int := if a = ((p.threads.getD t []).length : Int) then 3 else 0

/-- A thread goes on. -/
def goM (p : Prog) (s : State) (t : Int) : State :=
  { s with places := s.places.set t.toNat (s.places.getD t.toNat 0 + 1), status := s.status.set t.toNat (restM p t.toNat (s.places.getD t.toNat 0 + 1)) }

/-- Threads go on. -/
def onM (p : Prog) (who : List Int) (s : State) : State := who.foldl (goM p) s

/-- A thread's status is set. -/
def waitM (s : State) (t st : Int) : State := { s with status := s.status.set t.toNat st }

theorem goM_places (p : Prog) (s : State) (t : Int) (u : Nat) (h0 : 0 ≤ t) : (goM p s t).places[u]? = if (u : Int) = t then s.places[u]?.map (· + 1) else s.places[u]? := by
  obtain ⟨k, rfl⟩ : ∃ k : Nat, t = k := ⟨_, (Int.toNat_of_nonneg h0).symm⟩
  simp only [goM, Int.toNat_natCast, List.getElem?_set]
  by_cases e : k = u
  · subst e
    simp only [if_true]
    by_cases hl : k < s.places.length
    · simp [hl]
    · simp [hl]
  · have e' : ¬ (u : Int) = k := by omega
    simp only [e, e', if_false]

theorem goM_status (p : Prog) (s : State) (t : Int) (u : Nat) (h0 : 0 ≤ t) : (goM p s t).status[u]? = if (u : Int) = t then s.status[u]?.map (fun _ => restM p u (s.places.getD u 0 + 1)) else s.status[u]? := by
  obtain ⟨k, rfl⟩ : ∃ k : Nat, t = k := ⟨_, (Int.toNat_of_nonneg h0).symm⟩
  simp only [goM, Int.toNat_natCast, List.getElem?_set]
  by_cases e : k = u
  · subst e
    simp only [if_true]
    by_cases hl : k < s.status.length
    · simp [hl]
    · simp [hl]
  · have e' : ¬ (u : Int) = k := by omega
    simp only [e, e', if_false]

theorem onM_places (p : Prog) : ∀ (who : List Int) (s : State), who.Nodup → (∀ x ∈ who, 0 ≤ x) → ∀ u : Nat, (onM p who s).places[u]? = if (u : Int) ∈ who then s.places[u]?.map (· + 1) else s.places[u]?
  | [], s, _, _, u => by simp [onM]
  | x :: r, s, hd, h0, u => by
    have hd' := List.nodup_cons.1 hd
    have ih := onM_places p r (goM p s x) hd'.2 (fun y hy => h0 y (List.mem_cons_of_mem _ hy)) u
    have e : onM p (x :: r) s = onM p r (goM p s x) := rfl
    rw [e, ih, goM_places p s x u (h0 x (by simp))]
    by_cases h1 : (u : Int) = x
    · have h2 : ¬ (u : Int) ∈ r := fun h => hd'.1 (h1 ▸ h)
      rw [if_neg h2, if_pos h1, if_pos (by simp [h1])]
    · rw [if_neg h1]
      by_cases h2 : (u : Int) ∈ r
      · rw [if_pos h2, if_pos (List.mem_cons_of_mem _ h2)]
      · rw [if_neg h2, if_neg (by simp [h1, h2])]

theorem onM_status (p : Prog) : ∀ (who : List Int) (s : State), who.Nodup → (∀ x ∈ who, 0 ≤ x) → ∀ u : Nat, (onM p who s).status[u]? = if (u : Int) ∈ who then s.status[u]?.map (fun _ => restM p u (s.places.getD u 0 + 1)) else s.status[u]?
  | [], s, _, _, u => by simp [onM]
  | x :: r, s, hd, h0, u => by
    have hd' := List.nodup_cons.1 hd
    have ih := onM_status p r (goM p s x) hd'.2 (fun y hy => h0 y (List.mem_cons_of_mem _ hy)) u
    have e : onM p (x :: r) s = onM p r (goM p s x) := rfl
    rw [e, ih, goM_status p s x u (h0 x (by simp))]
    by_cases h1 : (u : Int) = x
    · have h2 : ¬ (u : Int) ∈ r := fun h => hd'.1 (h1 ▸ h)
      rw [if_neg h2, if_pos h1, if_pos (by simp [h1])]
    · rw [if_neg h1]
      by_cases h2 : (u : Int) ∈ r
      · rw [if_pos h2, if_pos (List.mem_cons_of_mem _ h2)]
        have h3 : (goM p s x).places.getD u 0 = s.places.getD u 0 := by
          rw [List.getD_eq_getElem?_getD, List.getD_eq_getElem?_getD, goM_places p s x u (h0 x (by simp)), if_neg h1]
        rw [h3]
      · rw [if_neg h2, if_neg (by simp [h1, h2])]

theorem onM_rest (p : Prog) : ∀ (who : List Int) (s : State), ∃ pl st, onM p who s = { s with places := pl, status := st } ∧ pl.length = s.places.length ∧ st.length = s.status.length
  | [], s => ⟨s.places, s.status, rfl, rfl, rfl⟩
  | x :: r, s => by
    obtain ⟨pl, st, h, h1, h2⟩ := onM_rest p r (goM p s x)
    refine ⟨pl, st, ?_, ?_, ?_⟩
    · have e : onM p (x :: r) s = onM p r (goM p s x) := rfl
      rw [e, h]; rfl
    · rw [h1]; simp [goM]
    · rw [h2]; simp [goM]

/-- Two lists that differ in one part. -/
def Swap {β : Type} (es es' fx fx' : List β) : Prop := ∃ A B, es = A ++ fx ++ B ∧ es' = A ++ fx' ++ B

theorem Swap.l {β : Type} {es es' fx fx' : List β} (h : Swap es es' fx fx') (Q : List β) : Swap (es ++ Q) (es' ++ Q) fx fx' := by
  obtain ⟨A, B, rfl, rfl⟩ := h
  exact ⟨A, B ++ Q, by simp, by simp⟩

theorem Swap.r {β : Type} {es es' fx fx' : List β} (h : Swap es es' fx fx') (Q : List β) : Swap (Q ++ es) (Q ++ es') fx fx' := by
  obtain ⟨A, B, rfl, rfl⟩ := h
  exact ⟨Q ++ A, B, by simp, by simp⟩

theorem evL_swap {α β : Type} (f : Nat → α → List β) {xs : List α} {i : Nat} {x : α} (h : xs[i]? = some x) (x' : α) : Swap (evL f 0 xs) (evL f 0 (xs.set i x')) (f i x) (f i x') := by
  have : ∀ (xs : List α) (j i : Nat), xs[i]? = some x → Swap (evL f j xs) (evL f j (xs.set i x')) (f (j + i) x) (f (j + i) x') := by
    intro xs
    induction xs with
    | nil => intro j i h; simp at h
    | cons y r ih =>
      intro j i h
      cases i with
      | zero =>
        simp at h; subst h
        exact ⟨[], evL f (j + 1) r, by simp [evL], by simp [evL]⟩
      | succ i =>
        have := (ih (j + 1) i (by simpa using h)).r (f j y)
        rw [show j + 1 + i = j + (i + 1) by omega] at this
        exact this
  have h2 := this xs 0 i h
  rwa [Nat.zero_add] at h2

theorem ofKey_append {β : Type} (a b : List (Int × β)) (t : Int) : ofKey (a ++ b) t = ofKey a t ++ ofKey b t := by simp [ofKey]

theorem Swap.same {β : Type} {es es' fx fx' : List (Int × β)} (h : Swap es es' fx fx') {u : Int} (e : ofKey fx' u = ofKey fx u) : ofKey es' u = ofKey es u := by
  obtain ⟨A, B, rfl, rfl⟩ := h
  simp only [ofKey_append, e]

theorem Swap.gone {β : Type} {es es' fx fx' : List (Int × β)} (h : Swap es es' fx fx') {u : Int} (h1 : ofKey fx u ≠ []) (h2 : ofKey fx' u = []) (h3 : (ofKey es u).length ≤ 1) : ofKey es' u = [] := by
  obtain ⟨A, B, rfl, rfl⟩ := h
  simp only [ofKey_append, List.length_append] at h3 ⊢
  have h4 : 0 < (ofKey fx u).length := List.length_pos_iff.2 h1
  have a0 : ofKey A u = [] := List.eq_nil_of_length_eq_zero (by omega)
  have b0 : ofKey B u = [] := List.eq_nil_of_length_eq_zero (by omega)
  rw [a0, b0, h2]; rfl

theorem Swap.none {β : Type} {es es' fx fx' : List (Int × β)} (h : Swap es es' fx fx') {u : Int} (h1 : ofKey es u = []) : ofKey fx u = [] := by
  obtain ⟨A, B, rfl, rfl⟩ := h
  simp only [ofKey_append, List.append_eq_nil_iff] at h1
  exact h1.1.2

theorem Swap.come {β : Type} {es es' fx fx' : List (Int × β)} (h : Swap es es' fx fx') {u : Int} (h1 : ofKey es u = []) : ofKey es' u = ofKey fx' u := by
  obtain ⟨A, B, rfl, rfl⟩ := h
  simp only [ofKey_append, List.append_eq_nil_iff] at h1 ⊢
  rw [h1.1.1, h1.2]; simp

theorem Swap.from {β : Type} {es es' fx fx' : List (Int × β)} (h : Swap es es' fx fx') {t : Int} (hk : ∀ u, u ≠ t → ofKey fx u = [] → ofKey fx' u = []) : ∀ e ∈ es', e.1 = t ∨ ∃ e2 ∈ es, e2.1 = e.1 := by
  intro e he
  by_cases ht : e.1 = t
  · exact .inl ht
  refine .inr (Classical.byContradiction fun hn => ?_)
  have h0 : ofKey es e.1 = [] := ofKey_nil.2 fun e2 h2 h3 => hn ⟨e2, h2, h3⟩
  have h1 := h.come h0
  rw [hk e.1 ht (h.none h0)] at h1
  exact ofKey_nil.1 h1 e he rfl

theorem Swap.refl {β : Type} (es : List β) : Swap es es [] [] := ⟨es, [], by simp, by simp⟩

theorem swap_sems {s : State} {i : Nat} {x : Sem} (h : s.sems[i]? = some x) (x' : Sem) : Swap (events s) (events { s with sems := s.sems.set i x' }) (evSem i x) (evSem i x') := ((((evL_swap evSem h x').l _).l _).l _).l _

theorem swap_onces {s : State} {i : Nat} {x : Once} (h : s.onces[i]? = some x) (x' : Once) : Swap (events s) (events { s with onces := s.onces.set i x' }) (evOnce i x) (evOnce i x') := ((((evL_swap evOnce h x').r _).l _).l _).l _

theorem swap_groups {s : State} {i : Nat} {x : Group} (h : s.groups[i]? = some x) (x' : Group) : Swap (events s) (events { s with groups := s.groups.set i x' }) (evGroup i x) (evGroup i x') := (((evL_swap evGroup h x').r _).l _).l _

theorem swap_barriers {s : State} {i : Nat} {x : Barrier} (h : s.barriers[i]? = some x) (x' : Barrier) : Swap (events s) (events { s with barriers := s.barriers.set i x' }) (evBarrier i x) (evBarrier i x') := ((evL_swap evBarrier h x').r _).l _

theorem swap_chans {s : State} {i : Nat} {x : Chan} (h : s.chans[i]? = some x) (x' : Chan) : Swap (events s) (events { s with chans := s.chans.set i x' }) (evChan i x) (evChan i x') := (evL_swap evChan h x').r _

theorem swap_own {s : State} {i : Nat} {x : Once} (h : s.onces[i]? = some x) (x' : Once) : Swap (owners s) (owners { s with onces := s.onces.set i x' }) (evOwn i x) (evOwn i x') := evL_swap evOwn h x'

theorem SharedOk.of {p : Prog} {s s' : State} (h : SharedOk p s) (e1 : s'.sems = s.sems) (e2 : s'.onces = s.onces) (e3 : s'.groups = s.groups) (e4 : s'.barriers = s.barriers) (e5 : s'.chans = s.chans) : SharedOk p s' := by
  obtain ⟨a, b, c, d, e, f, g, i, j, k⟩ := h
  exact ⟨by rw [e1]; exact a, by rw [e3]; exact b, by rw [e4]; exact c, by rw [e5]; exact d, by rw [e2]; exact e, by rw [e1]; exact f, by rw [e3]; exact g, by rw [e4]; exact i, by rw [e5]; exact j, by rw [e2]; exact k⟩

theorem set_all {α : Type} {P : Nat → α → Prop} {xs : List α} (h : ∀ (i : Nat) x, xs[i]? = some x → P i x) {i : Nat} {x' : α} (h1 : P i x') : ∀ (j : Nat) x, (xs.set i x')[j]? = some x → P j x := by
  intro j x hx
  rw [List.getElem?_set] at hx
  split at hx
  · rename_i e
    subst e
    split at hx
    · injection hx with hx; subst hx; exact h1
    · cases hx
  · exact h j x hx

theorem set_mem {α : Type} {P : α → Prop} {xs : List α} (h : ∀ x ∈ xs, P x) {i : Nat} {x' : α} (h1 : P x') : ∀ x ∈ xs.set i x', P x := fun x hx => by
  rcases List.mem_or_eq_of_mem_set hx with hx | rfl
  · exact h x hx
  · exact h1

theorem SharedOk.setSem {p : Prog} {s : State} (h : SharedOk p s) {i : Nat} {x x' : Sem} (hx : s.sems[i]? = some x) (ok : SemOk x') (e : x'.limit = x.limit) : SharedOk p { s with sems := s.sems.set i x' } :=
  { h with lsems := by simpa using h.lsems, sems := set_all h.sems ⟨ok, by rw [e]; exact (h.sems i x hx).2⟩ }

theorem SharedOk.setOnce {p : Prog} {s : State} (h : SharedOk p s) {i : Nat} {x' : Once} (ok : OnceOk x') : SharedOk p { s with onces := s.onces.set i x' } :=
  { h with lonces := by simpa using h.lonces, onces := set_mem h.onces ok }

theorem SharedOk.setGroup {p : Prog} {s : State} (h : SharedOk p s) {i : Nat} {x' : Group} (ok : GroupOk x') : SharedOk p { s with groups := s.groups.set i x' } :=
  { h with lgroups := by simpa using h.lgroups, groups := set_mem h.groups ok }

theorem SharedOk.setBarrier {p : Prog} {s : State} (h : SharedOk p s) {i : Nat} {x x' : Barrier} (hx : s.barriers[i]? = some x) (ok : BarrierOk x') (e : x'.parties = x.parties) : SharedOk p { s with barriers := s.barriers.set i x' } :=
  { h with lbarriers := by simpa using h.lbarriers, barriers := set_all h.barriers ⟨ok, by rw [e]; exact (h.barriers i x hx).2⟩ }

theorem SharedOk.setChan {p : Prog} {s : State} (h : SharedOk p s) {i : Nat} {x x' : Chan} (hx : s.chans[i]? = some x) (ok : x'.valid = true) (e : x'.room = x.room) : SharedOk p { s with chans := s.chans.set i x' } :=
  { h with lchans := by simpa using h.lchans, chans := set_all h.chans ⟨ok, by rw [e]; exact (h.chans i x hx).2⟩ }

/-- What a step may do to a thread. -/
def Th (p : Prog) (s s' : State) (ops : List Op) (u : Nat) (a st a' st' : Int) : Prop :=
  (a' = a ∧ st' = st ∧ ofKey (events s') u = ofKey (events s) u ∧ ofKey (owners s') u = ofKey (owners s) u) ∨
  (a' = a + 1 ∧ st' = restM p u (a + 1) ∧ a < ops.length ∧ ofKey (events s') u = [] ∧ ofKey (owners s') u = []) ∨
  ∃ op, ops[a.toNat]? = some op ∧ a' = a ∧ ((st' = 1 ∧ ofKey (events s') u = [want op] ∧ ofKey (owners s') u = []) ∨ (st' = 2 ∧ ofKey (events s') u = [] ∧ op.kind = 4 ∧ ofKey (owners s') u = [op.on]))

theorem Th.ok {p : Prog} {s s' : State} {ops : List Op} {u : Nat} {a st a' st' : Int} (h : Th p s s' ops u a st a' st') (hp : p.threads[u]? = some ops) (h0 : ThreadOk ops a st (ofKey (events s) u) (ofKey (owners s) u)) : ThreadOk ops a' st' (ofKey (events s') u) (ofKey (owners s') u) := by
  rcases h with ⟨rfl, rfl, e1, e2⟩ | ⟨rfl, rfl, hl, e1, e2⟩ | ⟨op, ho, rfl, h⟩
  · rw [e1, e2]; exact h0
  · obtain ⟨a0, a1, _⟩ := h0
    have hg : p.threads.getD u [] = ops := by rw [List.getD_eq_getElem?_getD, hp]; rfl
    rw [e1, e2]
    refine ⟨by omega, by omega, ?_⟩
    by_cases e : a + 1 = (ops.length : Int)
    · exact .inl ⟨e, by rw [restM, hg, if_pos e], rfl, rfl⟩
    · refine .inr ⟨ops[(a + 1).toNat]'(by omega), List.getElem?_eq_getElem _, .inl ⟨by rw [restM, hg, if_neg e], rfl, rfl⟩⟩
  · obtain ⟨a0, a1, _⟩ := h0
    refine ⟨a0, a1, .inr ⟨op, ho, ?_⟩⟩
    rcases h with ⟨rfl, e1, e2⟩ | ⟨rfl, e1, e2, e3⟩
    · exact .inr (.inl ⟨rfl, e2, e1⟩)
    · exact .inr (.inr ⟨rfl, e1, e2, e3⟩)

theorem Fits.len1 {p : Prog} {s : State} (ft : Fits p s) (u : Nat) (hu : u < p.threads.length) : (ofKey (events s) u).length ≤ 1 := by
  obtain ⟨a0, a1, h⟩ := ft.threads u _ _ _ (List.getElem?_eq_getElem hu) (List.getElem?_eq_getElem (by rw [ft.np]; exact hu)) (List.getElem?_eq_getElem (by rw [ft.ns]; exact hu))
  rcases h with ⟨_, _, e, _⟩ | ⟨op, _, ⟨_, e, _⟩ | ⟨_, _, e⟩ | ⟨_, e, _⟩⟩ <;> rw [e] <;> simp

theorem Fits.isIn {p : Prog} {s : State} (ft : Fits p s) {u : Int} (h : ofKey (events s) u ≠ []) : 0 ≤ u ∧ u < p.threads.length := by
  match hc : ofKey (events s) u with
  | [] => exact (h hc).elim
  | x :: r =>
    have hm : x ∈ ofKey (events s) u := by rw [hc]; simp
    exact ft.ev _ (ofKey_mem.1 hm)

theorem Fits.waiting {p : Prog} {s : State} (ft : Fits p s) {u : Nat} {ops : List Op} {a st : Int} (h1 : p.threads[u]? = some ops) (h2 : s.places[u]? = some a) (h3 : s.status[u]? = some st) (h : ofKey (events s) u ≠ []) : a < ops.length ∧ ofKey (owners s) u = [] ∧ st = 1 := by
  obtain ⟨a0, a1, h4⟩ := ft.threads u ops a st h1 h2 h3
  rcases h4 with ⟨_, _, e, _⟩ | ⟨op, h5, ⟨_, e, _⟩ | ⟨e1, e2, _⟩ | ⟨_, e, _⟩⟩
  · exact (h e).elim
  · exact (h e).elim
  · have := (List.getElem?_eq_some_iff.1 h5).1
    exact ⟨by omega, e2, e1⟩
  · exact (h e).elim

/-- A step keeps a state one of its program. -/
theorem Fits.move {p : Prog} {s s' : State} (ft : Fits p s) {t : Nat} {who : List Int} {fx fx' : List (Int × Waiting)} (sh : SharedOk p s')
    (lp : s'.places.length = s.places.length) (ls : s'.status.length = s.status.length)
    (lsaid : s'.said.length ≤ 64) (said : ∀ v ∈ s'.said, isValue v = true) (f0 : 0 ≤ s'.fault) (f4 : s'.fault ≤ 4)
    (sw : Swap (events s) (events s') fx fx') (ow : ∀ u : Int, u ≠ t → ofKey (owners s') u = ofKey (owners s) u)
    (hw : ∀ u ∈ who, u ≠ t → ofKey fx u ≠ [] ∧ ofKey fx' u = []) (ho : ∀ u, u ∉ who → u ≠ t → ofKey fx' u = ofKey fx u)
    (pl : ∀ u : Nat, u ≠ t → s'.places[u]? = if (u : Int) ∈ who then s.places[u]?.map (· + 1) else s.places[u]?)
    (st : ∀ u : Nat, u ≠ t → s'.status[u]? = if (u : Int) ∈ who then s.status[u]?.map (fun _ => restM p u (s.places.getD u 0 + 1)) else s.status[u]?)
    (ht : ∀ ops a st, p.threads[t]? = some ops → s.places[t]? = some a → s.status[t]? = some st → ∃ a' st', s'.places[t]? = some a' ∧ s'.status[t]? = some st' ∧ Th p s s' ops t a st a' st') (tn : t < p.threads.length) : Fits p s' := by
  have key : ∀ u : Int, u ≠ t → ofKey fx u = [] → ofKey fx' u = [] := fun u hu h0 => by
    by_cases hm : u ∈ who
    · exact (hw u hm hu).2
    · rw [ho u hm hu, h0]
  have hev : ∀ e ∈ events s', 0 ≤ e.1 ∧ e.1 < (p.threads.length : Int) := fun e he => by
    rcases sw.from key e he with h | ⟨e2, h2, h3⟩
    · rw [h]; omega
    · rw [← h3]; exact ft.ev _ h2
  have how : ∀ e ∈ owners s', 0 ≤ e.1 ∧ e.1 < (p.threads.length : Int) := fun e he => by
    by_cases hu : e.1 = t
    · rw [hu]; omega
    · have hm : e.2 ∈ ofKey (owners s') e.1 := ofKey_mem.2 he
      rw [ow e.1 hu] at hm
      exact ft.ow _ (ofKey_mem.1 hm)
  refine ⟨ft.prog, by rw [lp, ft.np], by rw [ls, ft.ns], sh.lsems, sh.lgroups, sh.lbarriers, sh.lchans, sh.lonces, lsaid, f0, f4, sh.sems, sh.groups, sh.barriers, sh.chans, sh.onces, said, fun u ops a' st' h1 h2 h3 => ?_, hev, how⟩
  have hu : u < p.threads.length := (List.getElem?_eq_some_iff.1 h1).1
  have hup : u < s.places.length := by rw [ft.np]; exact hu
  have hus : u < s.status.length := by rw [ft.ns]; exact hu
  have g2 : s.places[u]? = some s.places[u] := List.getElem?_eq_getElem hup
  have g3 : s.status[u]? = some s.status[u] := List.getElem?_eq_getElem hus
  have h0 := ft.threads u ops _ _ h1 g2 g3
  by_cases e : u = t
  · subst e
    obtain ⟨a2, st2, k1, k2, k3⟩ := ht ops _ _ h1 g2 g3
    rw [h2] at k1; rw [h3] at k2
    injection k1 with k1; injection k2 with k2
    subst k1; subst k2
    exact k3.ok h1 h0
  · have e' : (u : Int) ≠ t := by omega
    have p1 := pl u e
    have p2 := st u e
    rw [h2, g2] at p1
    rw [h3, g3] at p2
    by_cases hm : (u : Int) ∈ who
    · rw [if_pos hm] at p1 p2
      simp only [Option.map_some, Option.some.injEq] at p1 p2
      obtain ⟨w1, w2⟩ := hw u hm e'
      have hne : ofKey (events s) u ≠ [] := fun h => w1 (sw.none h)
      obtain ⟨q1, q2, q3⟩ := ft.waiting h1 g2 g3 hne
      refine Th.ok (s := s) (a := s.places[u]) (st := s.status[u]) (.inr (.inl ⟨p1, ?_, q1, sw.gone w1 w2 (ft.len1 u hu), by rw [ow u e', q2]⟩)) h1 h0
      rw [p2, List.getD_eq_getElem?_getD, g2]; rfl
    · rw [if_neg hm] at p1 p2
      injection p1 with p1; injection p2 with p2
      exact Th.ok (s := s) (a := s.places[u]) (st := s.status[u]) (.inl ⟨p1, p2, sw.same (ho u hm e'), ow u e'⟩) h1 h0

end Go.Proofs.Ytjkkoonennpceaa

namespace Go.Proofs.Ytjkkoonennpceaa

open Go Go.Sx Go.RowKit

def Sem.acquire (m : Sem) (t n : Int) : Sem × Bool :=
  if m.queue = [] ∧ n ≤ m.free then ({ m with free := m.free - n }, true) else ({ m with queue := m.queue ++ [⟨t, n⟩] }, false)

/-- Permits are handed to the first waiters: what is left, who has got some, who still waits. -/
def handL : Int → List Waiter → Int × List Int × List Waiter
  | f, [] => (f, [], [])
  | f, w :: r => if w.n ≤ f then ((handL (f - w.n) r).1, w.t :: (handL (f - w.n) r).2.1, (handL (f - w.n) r).2.2) else (f, [], w :: r)

def Sem.release (m : Sem) (n : Int) : Option (Sem × List Int) :=
  if n ≤ m.limit - m.free then some (⟨(handL (m.free + n) m.queue).1, m.limit, (handL (m.free + n) m.queue).2.2⟩, (handL (m.free + n) m.queue).2.1) else none

def Once.enter (m : Once) (t : Int) : Once × Int :=
  if m.state = 0 then (⟨1, t, 0, []⟩, 0) else if m.state = 1 then ({ m with waits := m.waits ++ [t] }, 1) else (m, 2)

def Once.finish (m : Once) (t v : Int) : Once × List Int := (⟨2, t, v, []⟩, m.waits)

def Group.add (m : Group) (n : Int) : Option (Group × List Int) :=
  if isValue (m.count + n) = true then (if m.count + n = 0 then some (⟨0, []⟩, m.waits) else some (⟨m.count + n, m.waits⟩, [])) else none

def Group.wait (m : Group) (t : Int) : Group × Bool := if m.count = 0 then (⟨0, []⟩, true) else (⟨m.count, m.waits ++ [t]⟩, false)

def Barrier.arrive (m : Barrier) (t : Int) : Option (Barrier × List Int) :=
  if (m.waits.length : Int) + 1 < m.parties then some (⟨m.parties, m.round, m.waits ++ [t]⟩, [])
  else if m.round = 9999 then none else some (⟨m.parties, m.round + 1, []⟩, m.waits ++ [t])

/-- The operation at which a thread is. -/
def opAt (p : Prog) (s : State) (t : Int) : Op := (p.threads.getD t.toNat []).getD (s.places.getD t.toNat 0).toNat Op0

def semAt (s : State) (o : Op) : Sem := s.sems.getD o.on.toNat ⟨0, 0, []⟩

def onceAt (s : State) (o : Op) : Once := s.onces.getD o.on.toNat ⟨0, 0, 0, []⟩

def groupAt (s : State) (o : Op) : Group := s.groups.getD o.on.toNat ⟨0, []⟩

def barrierAt (s : State) (o : Op) : Barrier := s.barriers.getD o.on.toNat ⟨0, 0, []⟩

def chanAt (s : State) (o : Op) : Chan := s.chans.getD o.on.toNat .zero

def setSem (s : State) (o : Op) (x : Sem) : State := { s with sems := s.sems.set o.on.toNat x }

def setOnce (s : State) (o : Op) (x : Once) : State := { s with onces := s.onces.set o.on.toNat x }

def setGroup (s : State) (o : Op) (x : Group) : State := { s with groups := s.groups.set o.on.toNat x }

def setBarrier (s : State) (o : Op) (x : Barrier) : State := { s with barriers := s.barriers.set o.on.toNat x }

def setChan (s : State) (o : Op) (x : Chan) : State := { s with chans := s.chans.set o.on.toNat x }

def sayM (s : State) (v : Int) : State := { s with said := s.said ++ [v] }

def faultM (s : State) (f : Int) : State := { s with fault := f }

def doAcquire (p : Prog) (s : State) (t : Int) (o : Op) : State :=
  if ((semAt s o).acquire t o.arg).2 = true then onM p [t] (setSem s o ((semAt s o).acquire t o.arg).1) else waitM (setSem s o ((semAt s o).acquire t o.arg).1) t 1

def doRelease (p : Prog) (s : State) (t : Int) (o : Op) : State :=
  match (semAt s o).release o.arg with
  | none => faultM s 1
  | some r => onM p (r.2 ++ [t]) (setSem s o r.1)

def doOnce (p : Prog) (s : State) (t : Int) (o : Op) : State :=
  if s.status.getD t.toNat 0 = 2 then onM p (((onceAt s o).finish t o.arg).2 ++ [t]) (setOnce s o ((onceAt s o).finish t o.arg).1)
  else if ((onceAt s o).enter t).2 = 0 then waitM (setOnce s o ((onceAt s o).enter t).1) t 2
  else if ((onceAt s o).enter t).2 = 1 then waitM (setOnce s o ((onceAt s o).enter t).1) t 1
  else onM p [t] (setOnce s o ((onceAt s o).enter t).1)

def doAdd (p : Prog) (s : State) (t : Int) (o : Op) : State :=
  match (groupAt s o).add o.arg with
  | none => faultM s 2
  | some r => onM p (r.2 ++ [t]) (setGroup s o r.1)

def doWait (p : Prog) (s : State) (t : Int) (o : Op) : State :=
  if ((groupAt s o).wait t).2 = true then onM p [t] (setGroup s o ((groupAt s o).wait t).1) else waitM (setGroup s o ((groupAt s o).wait t).1) t 1

def doArrive (p : Prog) (s : State) (t : Int) (o : Op) : State :=
  match (barrierAt s o).arrive t with
  | none => waitM (setBarrier s o ⟨0, 0, []⟩) t 1
  | some r => if r.2 = [] then waitM (setBarrier s o r.1) t 1 else onM p r.2 (setBarrier s o r.1)

def doSend (p : Prog) (s : State) (t : Int) (o : Op) : State :=
  if ((chanAt s o).send t o.arg).2.2.2 = true then
    if ((chanAt s o).send t o.arg).2.2.1 = true then
      onM p (((chanAt s o).send t o.arg).2.1 ++ [t]) (if ((chanAt s o).send t o.arg).2.1 = [] then setChan s o ((chanAt s o).send t o.arg).1 else sayM (setChan s o ((chanAt s o).send t o.arg).1) o.arg)
    else waitM (setChan s o ((chanAt s o).send t o.arg).1) t 1
  else faultM s 3

def doGet (p : Prog) (s : State) (t : Int) (o : Op) : State :=
  if ((chanAt s o).get t).2.2.1 = 0 then waitM (setChan s o ((chanAt s o).get t).1) t 1
  else onM p (((chanAt s o).get t).2.2.2.1 ++ [t]) (if ((chanAt s o).get t).2.2.1 = 1 then sayM (setChan s o ((chanAt s o).get t).1) ((chanAt s o).get t).2.1 else setChan s o ((chanAt s o).get t).1)

def doClose (p : Prog) (s : State) (t : Int) (o : Op) : State :=
  if (chanAt s o).close.2.2 = true then onM p ((chanAt s o).close.2.1 ++ [t]) (setChan s o (chanAt s o).close.1) else faultM s 4

/-- What a step does. -/
def doOp (p : Prog) (s : State) (t : Int) (o : Op) : State :=
  if o.kind = 1 then onM p [t] (sayM s o.arg)
  else if o.kind = 2 then doAcquire p s t o
  else if o.kind = 3 then doRelease p s t o
  else if o.kind = 4 then doOnce p s t o
  else if o.kind = 5 then doAdd p s t o
  else if o.kind = 6 then doWait p s t o
  else if o.kind = 7 then doArrive p s t o
  else if o.kind = 8 then doSend p s t o
  else if o.kind = 9 then doGet p s t o
  else doClose p s t o

def doM (p : Prog) (s : State) (t : Int) : State := doOp p s t (opAt p s t)

/-- A barrier's last round is over. -/
def Worn (p : Prog) (s : State) (t : Int) : Prop := (opAt p s t).kind = 7 ∧ (barrierAt s (opAt p s t)).arrive t = none

/-- A thread that can make a step. -/
structure Rdy (p : Prog) (s : State) (k : Nat) (ops : List Op) (a st : Int) (op : Op) : Prop where
  ft : Fits p s
  f : s.fault = 0
  kn : k < p.threads.length
  h1 : p.threads[k]? = some ops
  h2 : s.places[k]? = some a
  h3 : s.status[k]? = some st
  a0 : 0 ≤ a
  ho : ops[a.toNat]? = some op
  ev : ofKey (events s) k = []
  ow : (st = 0 ∧ ofKey (owners s) k = []) ∨ (st = 2 ∧ op.kind = 4 ∧ ofKey (owners s) k = [op.on])
  ok : OpOk p op
  at_ : opAt p s k = op

theorem readyM_mem {s : State} {t : Int} (h : t ∈ readyM s) : s.fault = 0 ∧ ∃ (k : Nat) (st : Int), t = k ∧ s.status[k]? = some st ∧ (st = 0 ∨ st = 2) := by
  rw [readyM] at h
  split at h
  · rename_i hf
    obtain ⟨k, st, h1, h2⟩ := evL_mem2.1 h
    rw [evReady] at h2
    split at h2
    · rename_i h3
      exact ⟨hf, k, st, by simpa using h2, h1, h3⟩
    · cases h2
  · cases h

theorem rdy {p : Prog} {s : State} (ft : Fits p s) {t : Int} (h : t ∈ readyM s) : ∃ (k : Nat) (ops : List Op) (a st : Int) (op : Op), t = k ∧ Rdy p s k ops a st op := by
  obtain ⟨hf, k, st, rfl, h3, h4⟩ := readyM_mem h
  have hs : k < s.status.length := (List.getElem?_eq_some_iff.1 h3).1
  have hk : k < p.threads.length := by rw [← ft.ns]; exact hs
  have hp : k < s.places.length := by rw [ft.np]; exact hk
  have h1 : p.threads[k]? = some p.threads[k] := List.getElem?_eq_getElem hk
  have h2 : s.places[k]? = some s.places[k] := List.getElem?_eq_getElem hp
  obtain ⟨a0, a1, h5⟩ := ft.threads k _ _ _ h1 h2 h3
  rcases h5 with ⟨_, e, _⟩ | ⟨op, ho, h5⟩
  · omega
  · have hok : OpOk p op := (ft.prog.ops _ (List.mem_of_getElem? h1)).2 _ (List.mem_of_getElem? ho)
    have hat : opAt p s (k : Int) = op := by
      simp only [opAt, Int.toNat_natCast, List.getD_eq_getElem?_getD, h1, h2, Option.getD_some, ho]
    refine ⟨k, p.threads[k], s.places[k], st, op, rfl, ft, hf, hk, h1, h2, h3, a0, ho, ?_, ?_, hok, hat⟩
    · rcases h5 with ⟨_, e, _⟩ | ⟨e, _, _⟩ | ⟨_, e, _⟩
      · exact e
      · omega
      · exact e
    · rcases h5 with ⟨e1, _, e⟩ | ⟨e, _, _⟩ | ⟨e1, _, e2, e3⟩
      · exact .inl ⟨e1, e⟩
      · omega
      · exact .inr ⟨e1, e2, e3⟩

theorem Rdy.own0 {p : Prog} {s : State} {k : Nat} {ops : List Op} {a st : Int} {op : Op} (r : Rdy p s k ops a st op) (h : op.kind ≠ 4) : ofKey (owners s) k = [] := by
  rcases r.ow with ⟨_, e⟩ | ⟨_, e, _⟩
  · exact e
  · exact (h e).elim

theorem Rdy.thr {p : Prog} {s : State} {k : Nat} {ops : List Op} {a st : Int} {op : Op} (r : Rdy p s k ops a st op) : isThread (k : Int) = true := by
  have := r.ft.prog.n4
  have := r.kn
  simp [isThread]; omega

theorem Rdy.alt {p : Prog} {s : State} {k : Nat} {ops : List Op} {a st : Int} {op : Op} (r : Rdy p s k ops a st op) : a < ops.length := by
  have h := (List.getElem?_eq_some_iff.1 r.ho).1
  have := r.a0
  omega

theorem Rdy.onFits {p : Prog} {s : State} {k : Nat} {ops : List Op} {a st : Int} {op : Op} (r : Rdy p s k ops a st op) {s1 : State} {who : List Int} {fx fx' : List (Int × Waiting)} (sh : SharedOk p s1)
    (e1 : s1.places = s.places) (e2 : s1.status = s.status) (e3 : s1.fault = s.fault) (lsaid : s1.said.length ≤ 64) (said : ∀ v ∈ s1.said, isValue v = true)
    (sw : Swap (events s) (events s1) fx fx') (ow : ∀ u : Int, u ≠ k → ofKey (owners s1) u = ofKey (owners s) u) (owk : ofKey (owners s1) k = [])
    (hd : who.Nodup) (hw : ∀ u ∈ who, ofKey fx u ≠ [] ∧ ofKey fx' u = []) (ho : ∀ u, u ∉ who → u ≠ k → ofKey fx' u = ofKey fx u) (hk : ofKey fx' k = []) : Fits p (onM p (who ++ [(k : Int)]) s1) := by
  have hkw : (k : Int) ∉ who := fun hm => (hw _ hm).1 (sw.none r.ev)
  have hd2 : (who ++ [(k : Int)]).Nodup := by
    rw [List.nodup_append]
    exact ⟨hd, by simp, fun x hx y hy => by simp at hy; subst hy; rintro rfl; exact hkw hx⟩
  have hpos : ∀ x ∈ who ++ [(k : Int)], 0 ≤ x := fun x hx => by
    rcases List.mem_append.1 hx with hx | hx
    · exact (r.ft.isIn fun h0 => (hw x hx).1 (sw.none h0)).1
    · simp at hx; omega
  have P := onM_places p (who ++ [(k : Int)]) s1 hd2 hpos
  have S := onM_status p (who ++ [(k : Int)]) s1 hd2 hpos
  obtain ⟨pl, st', hE, l1, l2⟩ := onM_rest p (who ++ [(k : Int)]) s1
  rw [hE] at P S ⊢
  have hmem : ∀ u : Nat, u ≠ k → (((u : Int) ∈ who ++ [(k : Int)]) ↔ (u : Int) ∈ who) := fun u hu => by
    have : ¬ (u : Int) = k := by omega
    simp [this]
  refine r.ft.move (t := k) (who := who) (fx := fx) (fx' := fx') (sh.of rfl rfl rfl rfl rfl) (by rw [← e1]; exact l1) (by rw [← e2]; exact l2) lsaid said (by show 0 ≤ s1.fault; rw [e3]; exact r.ft.f0) (by show s1.fault ≤ 4; rw [e3]; exact r.ft.f4) sw ow (fun u hu _ => hw u hu) ho ?_ ?_ ?_ r.kn
  · intro u hu
    have := P u
    simp only [hmem u hu, e1] at this
    exact this
  · intro u hu
    have := S u
    simp only [hmem u hu, e1, e2] at this
    exact this
  · intro ops' a' st2 h1 h2 h3
    rw [r.h1] at h1; rw [r.h2] at h2; rw [r.h3] at h3
    injection h1 with h1; injection h2 with h2; injection h3 with h3
    subst h1; subst h2; subst h3
    have P' := P k
    have S' := S k
    rw [if_pos (by simp), e1, r.h2] at P'
    rw [if_pos (by simp), e2, e1, r.h3, List.getD_eq_getElem?_getD, r.h2] at S'
    exact ⟨_, _, P', S', .inr (.inl ⟨rfl, rfl, r.alt, (sw.come r.ev).trans hk, owk⟩)⟩

theorem Rdy.waitFits {p : Prog} {s : State} {k : Nat} {ops : List Op} {a st : Int} {op : Op} (r : Rdy p s k ops a st op) {s1 : State} {fx fx' : List (Int × Waiting)} {b : Int} (sh : SharedOk p s1)
    (e1 : s1.places = s.places) (e2 : s1.status = s.status) (e3 : s1.fault = s.fault) (e4 : s1.said = s.said)
    (sw : Swap (events s) (events s1) fx fx') (ow : ∀ u : Int, u ≠ k → ofKey (owners s1) u = ofKey (owners s) u)
    (ho : ∀ u : Int, u ≠ k → ofKey fx' u = ofKey fx u) (hk : (b = 1 ∧ ofKey fx' k = [want op] ∧ ofKey (owners s1) k = []) ∨ (b = 2 ∧ ofKey fx' k = [] ∧ op.kind = 4 ∧ ofKey (owners s1) k = [op.on])) : Fits p (waitM s1 k b) := by
  have hlen : k < s1.status.length := by rw [e2]; exact (List.getElem?_eq_some_iff.1 r.h3).1
  refine r.ft.move (t := k) (who := []) (fx := fx) (fx' := fx') (sh.of rfl rfl rfl rfl rfl) (by show s1.places.length = _; rw [e1]) (by simp [waitM, e2]) (by show s1.said.length ≤ 64; rw [e4]; exact r.ft.lsaid) (by show ∀ v ∈ s1.said, _; rw [e4]; exact r.ft.said) (by show 0 ≤ s1.fault; rw [e3]; exact r.ft.f0) (by show s1.fault ≤ 4; rw [e3]; exact r.ft.f4) sw ow (fun u hu _ => by simp at hu) (fun u _ hu => ho u hu) ?_ ?_ ?_ r.kn
  · intro u hu
    simp [waitM, e1]
  · intro u hu
    have : ¬ k = u := fun h => hu h.symm
    simp [waitM, e2, this]
  · intro ops' a' st2 h1 h2 h3
    rw [r.h1] at h1; rw [r.h2] at h2
    injection h1 with h1; injection h2 with h2
    subst h1; subst h2
    refine ⟨a, b, by show s1.places[k]? = _; rw [e1, r.h2], by simp [waitM, hlen], .inr (.inr ⟨op, r.ho, rfl, ?_⟩)⟩
    have hc := sw.come r.ev
    rcases hk with ⟨rfl, k1, k2⟩ | ⟨rfl, k1, k2, k3⟩
    · exact .inl ⟨rfl, hc.trans k1, k2⟩
    · exact .inr ⟨rfl, hc.trans k1, k2, k3⟩

theorem Fits.fault {p : Prog} {s : State} (ft : Fits p s) {f : Int} (h0 : 0 ≤ f) (h4 : f ≤ 4) : Fits p (faultM s f) :=
  ⟨ft.prog, ft.np, ft.ns, ft.lsems, ft.lgroups, ft.lbarriers, ft.lchans, ft.lonces, ft.lsaid, h0, h4, ft.sems, ft.groups, ft.barriers, ft.chans, ft.onces, ft.said, ft.threads, ft.ev, ft.ow⟩

end Go.Proofs.Ytjkkoonennpceaa

namespace Go.Proofs.Ytjkkoonennpceaa

open Go Go.Sx Go.RowKit

def nil4 : Sl := ⟨none, 0⟩

end Go.Proofs.Ytjkkoonennpceaa

namespace Go.Proofs.Ytjkkoonennpceaa

open Go Go.Sx Go.RowKit

theorem onM_said (p : Prog) (who : List Int) (s : State) : (onM p who s).said = s.said := by
  obtain ⟨pl, st, h, _⟩ := onM_rest p who s
  rw [h]

theorem ofKey_one {β : Type} (k u : Int) (x : β) : ofKey [(k, x)] u = if k = u then [x] else [] := by
  by_cases h : k = u <;> simp [ofKey, h]

theorem ofKey_map_nil {α β : Type} {g : α → Int} {h : α → β} {xs : List α} {u : Int} : ofKey (xs.map fun x => (g x, h x)) u = [] ↔ u ∉ xs.map g := by
  rw [ofKey_nil]
  constructor
  · intro h1 h2
    obtain ⟨x, hx, rfl⟩ := List.mem_map.1 h2
    exact h1 _ (List.mem_map.2 ⟨x, hx, rfl⟩) rfl
  · intro h1 e he h2
    obtain ⟨x, hx, rfl⟩ := List.mem_map.1 he
    exact h1 (List.mem_map.2 ⟨x, hx, h2⟩)

theorem taken {α β : Type} (g : α → Int) (h : α → β) (xs : List α) (n : Nat) (nd : (xs.map g).Nodup) :
    (∀ u ∈ (xs.take n).map g, ofKey (xs.map fun x => (g x, h x)) u ≠ [] ∧ ofKey ((xs.drop n).map fun x => (g x, h x)) u = []) ∧
    (∀ u, u ∉ (xs.take n).map g → ofKey ((xs.drop n).map fun x => (g x, h x)) u = ofKey (xs.map fun x => (g x, h x)) u) := by
  have e : xs.map g = (xs.take n).map g ++ (xs.drop n).map g := by rw [← List.map_append, List.take_append_drop]
  have e2 : (xs.map fun x => (g x, h x)) = ((xs.take n).map fun x => (g x, h x)) ++ (xs.drop n).map fun x => (g x, h x) := by rw [← List.map_append, List.take_append_drop]
  rw [e, List.nodup_append] at nd
  refine ⟨fun u hu => ⟨fun h0 => ?_, ofKey_map_nil.2 fun h2 => nd.2.2 u hu u h2 rfl⟩, fun u hu => ?_⟩
  · rw [ofKey_map_nil, e] at h0
    exact h0 (List.mem_append_left _ hu)
  · rw [e2, ofKey_append, ofKey_map_nil.2 hu]; rfl

theorem distinct_nd {xs : List Int} (h : distinct xs = true) : xs.Nodup := by
  simp only [distinct, decide_eq_true_eq] at h
  exact h.1

theorem say_fits {p : Prog} {s : State} {k : Nat} {ops : List Op} {a st : Int} {op : Op} (r : Rdy p s k ops a st op) (hk : op.kind = 1) (hs : s.said.length + 1 ≤ 64) : Fits p (onM p [(k : Int)] (sayM s op.arg)) := by
  have hv : isValue op.arg = true := by
    have h := r.ok.2.2.2.2
    rw [Prog.argOk, if_neg (by omega), if_neg (by omega), if_pos (by omega)] at h
    exact h
  exact r.onFits (s1 := sayM s op.arg) (who := []) (fx := []) (fx' := []) (r.ft.shared.of rfl rfl rfl rfl rfl) rfl rfl rfl (by simpa [sayM] using hs)
    (fun v h => by
      rcases List.mem_append.1 h with h | h
      · exact r.ft.said v h
      · simp at h; rw [h]; exact hv)
    (Swap.refl _) (fun _ _ => rfl) (r.own0 (by omega)) (by simp) (fun u hu => by simp at hu) (fun _ _ _ => rfl) rfl

theorem Rdy.sem {p : Prog} {s : State} {k : Nat} {ops : List Op} {a st : Int} {op : Op} (r : Rdy p s k ops a st op) (hk : op.kind = 2 ∨ op.kind = 3) :
    ∃ x, s.sems[op.on.toNat]? = some x ∧ semAt s op = x ∧ SemOk x ∧ 1 ≤ op.arg ∧ op.arg ≤ x.limit ∧ ((op.on.toNat : Nat) : Int) = op.on := by
  obtain ⟨_, _, o0, o1, h5⟩ := r.ok
  rw [Prog.argOk, if_pos hk] at h5
  rw [Prog.shared, if_neg (by omega), if_pos hk, ← r.ft.lsems] at o1
  have hi : op.on.toNat < s.sems.length := by omega
  have hx : s.sems[op.on.toNat]? = some s.sems[op.on.toNat] := List.getElem?_eq_getElem hi
  obtain ⟨g1, g2⟩ := r.ft.sems _ _ hx
  rw [List.getD_eq_getElem?_getD, g2] at h5
  exact ⟨_, hx, by rw [semAt, List.getD_eq_getElem?_getD, hx]; rfl, g1, h5.1, h5.2, by omega⟩

theorem Rdy.once {p : Prog} {s : State} {k : Nat} {ops : List Op} {a st : Int} {op : Op} (r : Rdy p s k ops a st op) (hk : op.kind = 4) :
    ∃ x, s.onces[op.on.toNat]? = some x ∧ onceAt s op = x ∧ OnceOk x ∧ isValue op.arg = true ∧ ((op.on.toNat : Nat) : Int) = op.on := by
  obtain ⟨_, _, o0, o1, h5⟩ := r.ok
  rw [Prog.argOk, if_neg (by omega), if_neg (by omega), if_pos (by omega)] at h5
  rw [Prog.shared, if_neg (by omega), if_neg (by omega), if_pos hk] at o1
  have hl := r.ft.lonces
  have hi : op.on.toNat < s.onces.length := by omega
  have hx : s.onces[op.on.toNat]? = some s.onces[op.on.toNat] := List.getElem?_eq_getElem hi
  exact ⟨_, hx, by rw [onceAt, List.getD_eq_getElem?_getD, hx]; rfl, r.ft.onces _ (List.getElem_mem hi), h5, by omega⟩

theorem Rdy.group {p : Prog} {s : State} {k : Nat} {ops : List Op} {a st : Int} {op : Op} (r : Rdy p s k ops a st op) (hk : op.kind = 5 ∨ op.kind = 6) :
    ∃ x, s.groups[op.on.toNat]? = some x ∧ groupAt s op = x ∧ GroupOk x ∧ (op.kind = 5 → -9 ≤ op.arg ∧ op.arg ≤ 9) ∧ ((op.on.toNat : Nat) : Int) = op.on := by
  obtain ⟨_, _, o0, o1, h5⟩ := r.ok
  rw [Prog.shared, if_neg (by omega), if_neg (by omega), if_neg (by omega), if_pos hk, ← r.ft.lgroups] at o1
  have hi : op.on.toNat < s.groups.length := by omega
  have hx : s.groups[op.on.toNat]? = some s.groups[op.on.toNat] := List.getElem?_eq_getElem hi
  refine ⟨_, hx, by rw [groupAt, List.getD_eq_getElem?_getD, hx]; rfl, r.ft.groups _ (List.getElem_mem hi), fun e => ?_, by omega⟩
  rw [Prog.argOk, if_neg (by omega), if_pos e] at h5
  exact h5

theorem Rdy.barrier {p : Prog} {s : State} {k : Nat} {ops : List Op} {a st : Int} {op : Op} (r : Rdy p s k ops a st op) (hk : op.kind = 7) :
    ∃ x, s.barriers[op.on.toNat]? = some x ∧ barrierAt s op = x ∧ BarrierOk x ∧ ((op.on.toNat : Nat) : Int) = op.on := by
  obtain ⟨_, _, o0, o1, _⟩ := r.ok
  rw [Prog.shared, if_neg (by omega), if_neg (by omega), if_neg (by omega), if_neg (by omega), if_pos hk, ← r.ft.lbarriers] at o1
  have hi : op.on.toNat < s.barriers.length := by omega
  have hx : s.barriers[op.on.toNat]? = some s.barriers[op.on.toNat] := List.getElem?_eq_getElem hi
  exact ⟨_, hx, by rw [barrierAt, List.getD_eq_getElem?_getD, hx]; rfl, (r.ft.barriers _ _ hx).1, by omega⟩

theorem Rdy.chan {p : Prog} {s : State} {k : Nat} {ops : List Op} {a st : Int} {op : Op} (r : Rdy p s k ops a st op) (hk : 8 ≤ op.kind) :
    ∃ x, s.chans[op.on.toNat]? = some x ∧ chanAt s op = x ∧ x.Valid ∧ (op.kind = 8 → isValue op.arg = true) ∧ ((op.on.toNat : Nat) : Int) = op.on := by
  obtain ⟨_, _, o0, o1, h5⟩ := r.ok
  rw [Prog.shared, if_neg (by omega), if_neg (by omega), if_neg (by omega), if_neg (by omega), if_neg (by omega), ← r.ft.lchans] at o1
  have hi : op.on.toNat < s.chans.length := by omega
  have hx : s.chans[op.on.toNat]? = some s.chans[op.on.toNat] := List.getElem?_eq_getElem hi
  refine ⟨_, hx, by rw [chanAt, List.getD_eq_getElem?_getD, hx]; rfl, by have := (r.ft.chans _ _ hx).1; simpa [Chan.valid] using this, fun e => ?_, by omega⟩
  rw [Prog.argOk, if_neg (by omega), if_neg (by omega), if_pos (by omega)] at h5
  exact h5

theorem acquire_fits {p : Prog} {s : State} {k : Nat} {ops : List Op} {a st : Int} {op : Op} (r : Rdy p s k ops a st op) (hk : op.kind = 2) : Fits p (doAcquire p s k op) := by
  obtain ⟨x, hx, hxa, ok, a1, a2, hi⟩ := r.sem (.inl hk)
  have sw := fun x' => swap_sems hx x'
  have hn : (k : Int) ∉ x.queue.map (·.t) := ofKey_map_nil.1 ((sw x).none r.ev)
  rw [doAcquire, hxa, Sem.acquire]
  by_cases hc : x.queue = [] ∧ op.arg ≤ x.free
  · rw [if_pos hc]
    simp only [if_true]
    have := ok.fl
    exact r.onFits (s1 := setSem s op _) (who := []) (r.ft.shared.setSem (s := s) hx (x' := { x with free := x.free - op.arg }) ⟨ok.l1, ok.l9, by show 0 ≤ x.free - op.arg; omega, by show x.free - op.arg ≤ x.limit; omega, ok.q6, ok.cnt, ok.dis, fun w hw => by rw [show ({ x with free := x.free - op.arg } : Sem).queue = [] from hc.1] at hw; simp at hw⟩ rfl) rfl rfl rfl r.ft.lsaid r.ft.said
      (sw _) (fun _ _ => rfl) (r.own0 (by omega)) (by simp) (fun u hu => by simp at hu) (fun _ _ _ => rfl) ((sw x).none r.ev)
  · rw [if_neg hc]
    simp only [Bool.false_eq_true, if_false]
    have hok : SemOk { x with queue := x.queue ++ [⟨(k : Int), op.arg⟩] } := by
      have hdis : distinct ((x.queue ++ [(⟨(k : Int), op.arg⟩ : Waiter)]).map (·.t)) = true := by
        rw [List.map_append]; exact distinct_snoc ok.dis r.thr hn
      refine ⟨ok.l1, ok.l9, ok.f0, ok.fl, by have := distinct_len hdis; simpa using this, fun w hw => ?_, hdis, fun w hw => ?_⟩
      · rcases List.mem_append.1 hw with hw | hw
        · exact ok.cnt w hw
        · simp at hw; subst hw; exact ⟨a1, a2⟩
      · by_cases h0 : x.queue = []
        · have h1 : ¬ op.arg ≤ x.free := fun h => hc ⟨h0, h⟩
          simp [h0] at hw
          subst hw
          show x.free < op.arg
          omega
        · obtain ⟨y, q, hq⟩ := List.exists_cons_of_ne_nil h0
          refine ok.hd w ?_
          rw [hq] at hw ⊢
          simpa using hw
    have hadd : ∀ u, ofKey (evSem op.on.toNat { x with queue := x.queue ++ [⟨(k : Int), op.arg⟩] }) u = ofKey (evSem op.on.toNat x) u ++ (if (k : Int) = u then [⟨2, op.on, op.arg⟩] else []) := fun u => by
      simp only [evSem, List.map_append, ofKey_append, List.map_cons, List.map_nil, ofKey_one, hi]
    refine r.waitFits (s1 := setSem s op _) (b := 1) (r.ft.shared.setSem (s := s) hx hok rfl) rfl rfl rfl rfl (sw _) (fun _ _ => rfl) (fun u hu => ?_) (.inl ⟨rfl, ?_, r.own0 (by omega)⟩)
    · rw [hadd, if_neg (fun h => hu h.symm), List.append_nil]
    · rw [hadd, if_pos rfl, (sw x).none r.ev, want, if_pos (by omega), hk]; rfl

theorem handL_ok : ∀ (q : List Waiter) (f : Int), 0 ≤ f → (∀ w ∈ q, 1 ≤ w.n) → ∃ n, (handL f q).2.2 = q.drop n ∧ (handL f q).2.1 = (q.take n).map (·.t) ∧ 0 ≤ (handL f q).1 ∧ (handL f q).1 ≤ f ∧ ∀ w, (q.drop n)[0]? = some w → (handL f q).1 < w.n
  | [], f, h0, _ => ⟨0, rfl, rfl, h0, by simp [handL], by simp⟩
  | w :: q, f, h0, hc => by
    have h1 := hc w (by simp)
    rw [handL]
    by_cases e : w.n ≤ f
    · rw [if_pos e]
      obtain ⟨n, i1, i2, i3, i4, i5⟩ := handL_ok q (f - w.n) (by omega) (fun y hy => hc y (List.mem_cons_of_mem _ hy))
      exact ⟨n + 1, by simpa using i1, by simp [i2], i3, by show (handL (f - w.n) q).1 ≤ f; omega, by simpa using i5⟩
    · rw [if_neg e]
      exact ⟨0, rfl, rfl, h0, Int.le_refl _, fun y hy => by simp at hy; subst hy; show f < w.n; omega⟩

theorem release_fits {p : Prog} {s : State} {k : Nat} {ops : List Op} {a st : Int} {op : Op} (r : Rdy p s k ops a st op) (hk : op.kind = 3) : Fits p (doRelease p s k op) := by
  obtain ⟨x, hx, hxa, ok, a1, a2, hi⟩ := r.sem (.inr hk)
  have sw := fun x' => swap_sems hx x'
  rw [doRelease, hxa, Sem.release]
  by_cases hc : op.arg ≤ x.limit - x.free
  · rw [if_pos hc]
    have f0 := ok.f0
    obtain ⟨n, i1, i2, i3, i4, i5⟩ := handL_ok x.queue (x.free + op.arg) (by omega) (fun w hw => (ok.cnt w hw).1)
    simp only [i1, i2]
    have nd := distinct_nd ok.dis
    obtain ⟨t1, t2⟩ := taken (·.t) (fun w : Waiter => (⟨2, (op.on.toNat : Int), w.n⟩ : Waiting)) x.queue n nd
    have hsub : ((x.queue.drop n).map (·.t)).Sublist (x.queue.map (·.t)) := (List.drop_sublist _ _).map _
    refine r.onFits (s1 := setSem s op _) (who := (x.queue.take n).map (·.t)) (r.ft.shared.setSem (s := s) hx (x' := ⟨(handL (x.free + op.arg) x.queue).1, x.limit, x.queue.drop n⟩) ⟨ok.l1, ok.l9, i3, by show (handL (x.free + op.arg) x.queue).1 ≤ x.limit; omega, by have := ok.q6; show (x.queue.drop n).length ≤ 6; rw [List.length_drop]; omega, fun w hw => ok.cnt w (List.mem_of_mem_drop hw), distinct_sub hsub ok.dis, i5⟩ rfl) rfl rfl rfl r.ft.lsaid r.ft.said
      (sw _) (fun _ _ => rfl) (r.own0 (by omega)) (nd.sublist ((List.take_sublist _ _).map _)) t1 (fun u hu _ => t2 u hu) ?_
    have h0 := (sw x).none r.ev
    by_cases hm : (k : Int) ∈ (x.queue.take n).map (·.t)
    · exact (t1 _ hm).2
    · exact (t2 _ hm).trans h0
  · rw [if_neg hc]
    exact r.ft.fault (by omega) (by omega)

theorem add_fits {p : Prog} {s : State} {k : Nat} {ops : List Op} {a st : Int} {op : Op} (r : Rdy p s k ops a st op) (hk : op.kind = 5) : Fits p (doAdd p s k op) := by
  obtain ⟨x, hx, hxa, ⟨ok1, ok2, ok3⟩, ha, hi⟩ := r.group (.inl hk)
  have sw := fun x' => swap_groups hx x'
  have nd := distinct_nd ok2
  rw [doAdd, hxa, Group.add]
  by_cases hc : isValue (x.count + op.arg) = true
  · rw [if_pos hc]
    by_cases h0 : x.count + op.arg = 0
    · rw [if_pos h0]
      obtain ⟨t1, t2⟩ := taken (fun t : Int => t) (fun t : Int => (⟨6, (op.on.toNat : Int), 0⟩ : Waiting)) x.waits x.waits.length (by simpa using nd)
      simp only [List.take_length, List.drop_length, List.map_id'] at t1 t2
      refine r.onFits (s1 := setGroup s op ⟨0, []⟩) (who := x.waits) (r.ft.shared.setGroup (s := s) ⟨by decide, by decide, .inr rfl⟩) rfl rfl rfl r.ft.lsaid r.ft.said
        (sw _) (fun _ _ => rfl) (r.own0 (by omega)) nd t1 (fun u hu _ => t2 u hu) rfl
    · rw [if_neg h0]
      have hv : 0 < x.count + op.arg := by simp [isValue] at hc; omega
      exact r.onFits (s1 := setGroup s op ⟨x.count + op.arg, x.waits⟩) (who := []) (r.ft.shared.setGroup (s := s) ⟨hc, ok2, .inl hv⟩) rfl rfl rfl r.ft.lsaid r.ft.said
        (sw _) (fun _ _ => rfl) (r.own0 (by omega)) (by simp) (fun u hu => by simp at hu) (fun _ _ _ => rfl) ((sw x).none r.ev)
  · rw [if_neg hc]
    exact r.ft.fault (by omega) (by omega)

theorem wait_fits {p : Prog} {s : State} {k : Nat} {ops : List Op} {a st : Int} {op : Op} (r : Rdy p s k ops a st op) (hk : op.kind = 6) : Fits p (doWait p s k op) := by
  obtain ⟨x, hx, hxa, ⟨ok1, ok2, ok3⟩, ha, hi⟩ := r.group (.inr hk)
  have sw := fun x' => swap_groups hx x'
  have hn : (k : Int) ∉ x.waits := by
    have h := (ofKey_map_nil (g := fun t : Int => t)).1 ((sw x).none r.ev)
    simpa using h
  rw [doWait, hxa, Group.wait]
  by_cases hc : x.count = 0
  · rw [if_pos hc]
    simp only [if_true]
    have hw : x.waits = [] := by
      rcases ok3 with h | h
      · omega
      · exact h
    have he : evGroup op.on.toNat x = [] := by simp [evGroup, hw]
    exact r.onFits (s1 := setGroup s op ⟨0, []⟩) (who := []) (r.ft.shared.setGroup (s := s) ⟨by decide, by decide, .inr rfl⟩) rfl rfl rfl r.ft.lsaid r.ft.said
      (sw _) (fun _ _ => rfl) (r.own0 (by omega)) (by simp) (fun u hu => by simp at hu) (fun _ _ _ => by rw [he]; rfl) rfl
  · rw [if_neg hc]
    simp only [Bool.false_eq_true, if_false]
    have hadd : ∀ u, ofKey (evGroup op.on.toNat ⟨x.count, x.waits ++ [(k : Int)]⟩) u = ofKey (evGroup op.on.toNat x) u ++ (if (k : Int) = u then [⟨6, op.on, 0⟩] else []) := fun u => by
      simp only [evGroup, List.map_append, ofKey_append, List.map_cons, List.map_nil, ofKey_one, hi]
    have hv : 0 < x.count := by simp [isValue] at ok1; omega
    refine r.waitFits (s1 := setGroup s op _) (b := 1) (r.ft.shared.setGroup (s := s) ⟨ok1, distinct_snoc ok2 r.thr hn, .inl hv⟩) rfl rfl rfl rfl (sw _) (fun _ _ => rfl) (fun u hu => ?_) (.inl ⟨rfl, ?_, r.own0 (by omega)⟩)
    · rw [hadd, if_neg (fun h => hu h.symm), List.append_nil]
    · rw [hadd, if_pos rfl, (sw x).none r.ev, want, if_neg (by omega), hk]; rfl

theorem arrive_fits {p : Prog} {s : State} {k : Nat} {ops : List Op} {a st : Int} {op : Op} (r : Rdy p s k ops a st op) (hk : op.kind = 7) (hw : (barrierAt s op).arrive k ≠ none) : Fits p (doArrive p s k op) := by
  obtain ⟨x, hx, hxa, ⟨p1, p6, r0, r9, wl, dis⟩, hi⟩ := r.barrier hk
  have sw := fun x' => swap_barriers hx x'
  have nd := distinct_nd dis
  have hn : (k : Int) ∉ x.waits := by
    have h := (ofKey_map_nil (g := fun t : Int => t)).1 ((sw x).none r.ev)
    simpa using h
  rw [hxa, Barrier.arrive] at hw
  rw [doArrive, hxa, Barrier.arrive]
  by_cases hc : (x.waits.length : Int) + 1 < x.parties
  · rw [if_pos hc]
    simp only [if_true]
    have hadd : ∀ u, ofKey (evBarrier op.on.toNat ⟨x.parties, x.round, x.waits ++ [(k : Int)]⟩) u = ofKey (evBarrier op.on.toNat x) u ++ (if (k : Int) = u then [⟨7, op.on, 0⟩] else []) := fun u => by
      simp only [evBarrier, List.map_append, ofKey_append, List.map_cons, List.map_nil, ofKey_one, hi]
    refine r.waitFits (s1 := setBarrier s op _) (b := 1) (r.ft.shared.setBarrier (s := s) hx (x' := ⟨x.parties, x.round, x.waits ++ [(k : Int)]⟩) ⟨p1, p6, r0, r9, by simpa using hc, distinct_snoc dis r.thr hn⟩ rfl) rfl rfl rfl rfl (sw _) (fun _ _ => rfl) (fun u hu => ?_) (.inl ⟨rfl, ?_, r.own0 (by omega)⟩)
    · rw [hadd, if_neg (fun h => hu h.symm), List.append_nil]
    · rw [hadd, if_pos rfl, (sw x).none r.ev, want, if_neg (by omega), hk]; rfl
  · rw [if_neg hc] at hw ⊢
    by_cases h9 : x.round = 9999
    · rw [if_pos h9] at hw; exact (hw rfl).elim
    · rw [if_neg h9]
      have hne : x.waits ++ [(k : Int)] ≠ [] := by simp
      simp only [if_neg hne]
      obtain ⟨t1, t2⟩ := taken (fun t : Int => t) (fun t : Int => (⟨7, (op.on.toNat : Int), 0⟩ : Waiting)) x.waits x.waits.length (by simpa using nd)
      simp only [List.take_length, List.drop_length, List.map_id'] at t1 t2
      exact r.onFits (s1 := setBarrier s op ⟨x.parties, x.round + 1, []⟩) (who := x.waits) (r.ft.shared.setBarrier (s := s) hx ⟨p1, p6, by show 0 ≤ x.round + 1; omega, by show x.round + 1 ≤ 9999; omega, by show ((0 : Nat) : Int) < x.parties; omega, show distinct [] = true by decide⟩ rfl) rfl rfl rfl r.ft.lsaid r.ft.said
        (sw _) (fun _ _ => rfl) (r.own0 (by omega)) nd t1 (fun u hu _ => t2 u hu) rfl

end Go.Proofs.Ytjkkoonennpceaa

namespace Go.Proofs.Ytjkkoonennpceaa

open Go Go.Sx Go.RowKit

theorem once_fits {p : Prog} {s : State} {k : Nat} {ops : List Op} {a st : Int} {op : Op} (r : Rdy p s k ops a st op) (hk : op.kind = 4) : Fits p (doOnce p s k op) := by
  obtain ⟨x, hx, hxa, ok, hv, hi⟩ := r.once hk
  have sw := fun x' => swap_onces hx x'
  have so := fun x' => swap_own hx x'
  have hn : (k : Int) ∉ x.waits := by
    have h := (ofKey_map_nil (g := fun t : Int => t)).1 ((sw x).none r.ev)
    simpa using h
  have hst : s.status.getD (k : Int).toNat 0 = st := by rw [Int.toNat_natCast, List.getD_eq_getElem?_getD, r.h3]; rfl
  have own1 : ∀ (y : Once) (u : Int), y.state = 1 → ofKey (evOwn op.on.toNat y) u = if y.owner = u then [op.on] else [] := fun y u h => by
    rw [evOwn, if_pos h, ofKey_one, hi]
  have own0 : ∀ (y : Once) (u : Int), y.state ≠ 1 → ofKey (evOwn op.on.toNat y) u = [] := fun y u h => by
    rw [evOwn, if_neg h]; rfl
  rw [doOnce, hxa, hst]
  by_cases h2 : st = 2
  · rw [if_pos h2]
    have hown : ofKey (owners s) k = [op.on] := by
      rcases r.ow with ⟨e, _⟩ | ⟨_, _, e⟩
      · omega
      · exact e
    have hx1 : x.state = 1 ∧ x.owner = k := by
      have hm : op.on ∈ ofKey (owners s) k := by rw [hown]; simp
      obtain ⟨j, y, hy, h1, h2, h3⟩ := owners_mem.1 hm
      have e : op.on.toNat = j := by omega
      rw [← e, hx] at hy
      injection hy with hy
      subst hy
      exact ⟨h1, h2⟩
    have o1 := (onceOk1 hx1.1).1 ok
    have nd := distinct_nd o1.2.2.1
    obtain ⟨t1, t2⟩ := taken (fun t : Int => t) (fun t : Int => (⟨4, (op.on.toNat : Int), 0⟩ : Waiting)) x.waits x.waits.length (by simpa using nd)
    simp only [List.take_length, List.drop_length, List.map_id'] at t1 t2
    refine r.onFits (s1 := setOnce s op ⟨2, (k : Int), op.arg, []⟩) (who := x.waits) (r.ft.shared.setOnce (s := s) ((onceOk2 rfl).2 ⟨r.thr, hv, rfl⟩)) rfl rfl rfl r.ft.lsaid r.ft.said
      (sw _) (fun u hu => (so _).same ?_) ((so _).gone (u := (k : Int)) ?_ ?_ ?_) nd t1 (fun u hu _ => t2 u hu) rfl
    · rw [own0 _ _ (show (2 : Int) ≠ 1 by decide), own1 x u hx1.1, hx1.2, if_neg (fun h => hu h.symm)]
    · rw [own1 x _ hx1.1, hx1.2, if_pos rfl]; simp
    · exact own0 _ _ (show (2 : Int) ≠ 1 by decide)
    · rw [hown]; simp
  rw [if_neg h2]
  have hown : ofKey (owners s) k = [] := by
    rcases r.ow with ⟨_, e⟩ | ⟨e, _⟩
    · exact e
    · exact (h2 e).elim
  rw [Once.enter]
  by_cases e0 : x.state = 0
  · simp only [if_pos e0, if_true]
    have o0 := (onceOk0 e0).1 ok
    have hw : x.waits = [] := o0.2.2
    refine r.waitFits (s1 := setOnce s op ⟨1, (k : Int), 0, []⟩) (b := 2) (r.ft.shared.setOnce (s := s) ((onceOk1 rfl).2 ⟨r.thr, rfl, show distinct [] = true by decide, by simp⟩)) rfl rfl rfl rfl (sw _) (fun u hu => (so _).same ?_) (fun u hu => ?_) (.inr ⟨rfl, rfl, hk, ?_⟩)
    · rw [own0 x u (by omega), own1 _ _ rfl, if_neg (fun h => hu h.symm)]
    · rw [show evOnce op.on.toNat x = [] by simp [evOnce, hw]]; rfl
    · exact ((so _).come hown).trans (by rw [own1 _ _ rfl, if_pos rfl])
  by_cases e1 : x.state = 1
  · simp only [if_neg e0, if_pos e1, if_true, if_neg (show ¬ (1 : Int) = 0 by decide)]
    have o1 := (onceOk1 e1).1 ok
    have hok : (k : Int) ≠ x.owner := fun e => by
      have h := (so x).none hown
      rw [own1 x _ e1, if_pos e.symm] at h
      cases h
    have hadd : ∀ u, ofKey (evOnce op.on.toNat { x with waits := x.waits ++ [(k : Int)] }) u = ofKey (evOnce op.on.toNat x) u ++ (if (k : Int) = u then [⟨4, op.on, 0⟩] else []) := fun u => by
      simp only [evOnce, List.map_append, ofKey_append, List.map_cons, List.map_nil, ofKey_one, hi]
    have hsame : ∀ u, ofKey (evOwn op.on.toNat { x with waits := x.waits ++ [(k : Int)] }) u = ofKey (evOwn op.on.toNat x) u := fun u => rfl
    refine r.waitFits (s1 := setOnce s op { x with waits := x.waits ++ [(k : Int)] }) (b := 1) (r.ft.shared.setOnce (s := s) ((onceOk1 (m := { x with waits := x.waits ++ [(k : Int)] }) e1).2 ⟨o1.1, o1.2.1, distinct_snoc o1.2.2.1 r.thr hn, ?_⟩)) rfl rfl rfl rfl (sw _) (fun u hu => (so _).same (hsame u)) (fun u hu => ?_) (.inl ⟨rfl, ?_, ((so _).same (hsame _)).trans hown⟩)
    · intro hm
      rcases List.mem_append.1 hm with hm | hm
      · exact o1.2.2.2 hm
      · simp at hm; exact hok hm.symm
    · rw [hadd, if_neg (fun h => hu h.symm), List.append_nil]
    · rw [hadd, if_pos rfl, (sw x).none r.ev, want, if_neg (by omega), hk]; rfl
  simp only [if_neg e0, if_neg e1, if_neg (show ¬ (2 : Int) = 0 by decide), if_neg (show ¬ (2 : Int) = 1 by decide)]
  exact r.onFits (s1 := setOnce s op x) (who := []) (r.ft.shared.setOnce (s := s) ok) rfl rfl rfl r.ft.lsaid r.ft.said
    (sw x) (fun u hu => (so x).same rfl) (((so x).same rfl).trans hown) (by simp) (fun u hu => by simp at hu) (fun _ _ _ => rfl) ((sw x).none r.ev)

theorem chan_fx (i : Nat) (x : Chan) (u : Int) : ofKey (evChan i x) u = ofKey (x.senders.map fun l => (l.t, (⟨8, (i : Int), l.v⟩ : Waiting))) u ++ ofKey (x.getters.map fun t => (t, (⟨9, (i : Int), 0⟩ : Waiting))) u := by rw [evChan, ofKey_append]

theorem chan_out {i : Nat} {x : Chan} {u : Int} (h : ofKey (evChan i x) u = []) : u ∉ x.threads := by
  rw [chan_fx, List.append_eq_nil_iff] at h
  intro hm
  rcases List.mem_append.1 hm with hm | hm
  · exact (ofKey_map_nil (g := Letter.t)).1 h.1 hm
  · exact (ofKey_map_nil (g := fun t : Int => t)).1 h.2 (by simpa using hm)

theorem chan_nd {x : Chan} (h : x.Valid) : (x.senders.map (·.t)).Nodup ∧ x.getters.Nodup := by
  have := distinct_nd h.di
  rw [Chan.threads, List.nodup_append] at this
  exact ⟨this.1, this.2.1⟩

theorem valid_of {x : Chan} (h : x.Valid) : x.valid = true := by rw [Chan.valid, decide_eq_true h]

theorem send_fits {p : Prog} {s : State} {k : Nat} {ops : List Op} {a st : Int} {op : Op} (r : Rdy p s k ops a st op) (hk : op.kind = 8) (hl : (doSend p s k op).said.length ≤ 64) : Fits p (doSend p s k op) := by
  obtain ⟨x, hx, hxa, hv, hval, hi⟩ := r.chan (by omega)
  have sw := fun x' => swap_chans hx x'
  have h0 := (sw x).none r.ev
  have hn := chan_out h0
  have nd := chan_nd hv
  rw [doSend, hxa] at hl ⊢
  by_cases hc : (x.send k op.arg).2.2.2 = true
  · have hv' := send_valid hc
    obtain ⟨_, c1, c2, c3, c4⟩ := send_ok hc
    rw [if_pos hc] at hl ⊢
    have hsd : x.send k op.arg = if h : 0 < x.getters.length then ({ x with getters := x.getters.drop 1 }, [x.getters[0]], true, true) else if (x.items.length : Int) < x.room then ({ x with items := x.items ++ [op.arg] }, [], true, true) else ({ x with senders := x.senders ++ [⟨(k : Int), op.arg⟩] }, [], false, true) := by
      rw [Chan.send, if_pos ⟨hv, c1, c2, c3, c4⟩]
    rw [hsd] at hv' hl ⊢
    by_cases hg : 0 < x.getters.length
    · simp only [dif_pos hg, if_true] at hv' hl ⊢
      rw [if_neg (by simp)] at hl ⊢
      have hs : x.senders = [] := Classical.byContradiction fun hne => by rw [(hv.se hne).2.1] at hg; simp at hg
      obtain ⟨t1, t2⟩ := taken (fun t : Int => t) (fun t : Int => (⟨9, (op.on.toNat : Int), 0⟩ : Waiting)) x.getters 1 (by simpa using nd.2)
      have e1 : x.getters.take 1 = [x.getters[0]] := take1 hg
      simp only [e1, List.map_id'] at t1 t2
      have fx : ∀ u, ofKey (evChan op.on.toNat x) u = ofKey (x.getters.map fun t => (t, (⟨9, (op.on.toNat : Int), 0⟩ : Waiting))) u := fun u => by rw [chan_fx, hs]; rfl
      have fx' : ∀ u, ofKey (evChan op.on.toNat { x with getters := x.getters.drop 1 }) u = ofKey ((x.getters.drop 1).map fun t => (t, (⟨9, (op.on.toNat : Int), 0⟩ : Waiting))) u := fun u => by rw [chan_fx]; show ofKey (x.senders.map _) u ++ _ = _; rw [hs]; rfl
      rw [onM_said] at hl
      refine r.onFits (s1 := sayM (setChan s op { x with getters := x.getters.drop 1 }) op.arg) (who := [x.getters[0]]) ((r.ft.shared.setChan (s := s) hx (valid_of hv') rfl).of rfl rfl rfl rfl rfl) rfl rfl rfl hl
        (fun v h => by
          rcases List.mem_append.1 h with h | h
          · exact r.ft.said v h
          · simp at h; rw [h]; exact hval hk)
        (sw _) (fun _ _ => rfl) (r.own0 (by omega)) (by simp) (fun u hu => by rw [fx, fx']; exact t1 u hu) (fun u hu _ => by rw [fx, fx']; exact t2 u hu) ?_
      rw [fx']
      rw [fx] at h0
      by_cases hm : (k : Int) ∈ [x.getters[0]]
      · exact (t1 _ hm).2
      · exact (t2 _ hm).trans h0
    · simp only [dif_neg hg] at hv' hl ⊢
      by_cases hr : (x.items.length : Int) < x.room
      · simp only [if_pos hr, if_true] at hv' hl ⊢
        exact r.onFits (s1 := setChan s op { x with items := x.items ++ [op.arg] }) (who := []) (r.ft.shared.setChan (s := s) hx (valid_of hv') rfl) rfl rfl rfl r.ft.lsaid r.ft.said
          (sw _) (fun _ _ => rfl) (r.own0 (by omega)) (by simp) (fun u hu => by simp at hu) (fun _ _ _ => rfl) h0
      · simp only [if_neg hr, Bool.false_eq_true, if_false] at hv' hl ⊢
        have hadd : ∀ u, ofKey (evChan op.on.toNat { x with senders := x.senders ++ [⟨(k : Int), op.arg⟩] }) u = ofKey (evChan op.on.toNat x) u ++ (if (k : Int) = u then [⟨8, op.on, op.arg⟩] else []) := fun u => by
          have hg' : x.getters = [] := by simpa using hg
          simp only [evChan, hg', List.map_append, ofKey_append, List.map_cons, List.map_nil, ofKey_one, hi, List.append_nil]
        refine r.waitFits (s1 := setChan s op _) (b := 1) (r.ft.shared.setChan (s := s) hx (valid_of hv') rfl) rfl rfl rfl rfl (sw _) (fun _ _ => rfl) (fun u hu => ?_) (.inl ⟨rfl, ?_, r.own0 (by omega)⟩)
        · rw [hadd, if_neg (fun h => hu h.symm), List.append_nil]
        · rw [hadd, if_pos rfl, h0, want, if_pos (by omega), hk]; rfl
  · rw [if_neg hc]
    exact r.ft.fault (by omega) (by omega)

theorem get_fits {p : Prog} {s : State} {k : Nat} {ops : List Op} {a st : Int} {op : Op} (r : Rdy p s k ops a st op) (hk : op.kind = 9) (hl : (doGet p s k op).said.length ≤ 64) : Fits p (doGet p s k op) := by
  obtain ⟨x, hx, hxa, hv, hval, hi⟩ := r.chan (by omega)
  have sw := fun x' => swap_chans hx x'
  have h0 := (sw x).none r.ev
  have hn := chan_out h0
  have nd := chan_nd hv
  have hok : x.Valid ∧ isThread (k : Int) = true ∧ ¬ (k : Int) ∈ x.threads := ⟨hv, r.thr, hn⟩
  have hgt : (x.get k).2.2.2.2 = true := by
    rw [Chan.get, if_pos hok]
    split
    · rfl
    · split <;> rfl
  have hv' := get_valid hgt
  have gv : ∀ y ∈ x.gItems, isValue y = true := fun y hy => by
    rcases List.mem_append.1 hy with hy | hy
    · exact hv.iv y hy
    · obtain ⟨l, hl, rfl⟩ := List.mem_map.1 hy
      exact hv.sv l (List.mem_of_mem_take hl)
  rw [doGet, hxa] at hl ⊢
  have hsd : x.get k = if 0 < x.gItems.length then ({ x with items := x.gItems.drop 1, senders := x.senders.drop 1 }, x.gItems.headD 0, 1, x.gWho, true) else if x.closed = true then ({ x with items := [], senders := [] }, 0, 2, [], true) else ({ x with items := [], senders := [], getters := x.getters ++ [(k : Int)] }, 0, 0, [], true) := by
    rw [Chan.get, if_pos hok]
  rw [hsd] at hv' hl ⊢
  by_cases hc : 0 < x.gItems.length
  · simp only [if_pos hc] at hv' hl ⊢
    rw [if_neg (by decide), if_pos trivial] at hl ⊢
    rw [onM_said] at hl
    obtain ⟨t1, t2⟩ := taken Letter.t (fun l : Letter => (⟨8, (op.on.toNat : Int), l.v⟩ : Waiting)) x.senders 1 nd.1
    have hgw : x.gWho = (x.senders.take 1).map Letter.t := rfl
    rw [← hgw] at t1 t2
    have fx' : ∀ (its : List Int) u, ofKey (evChan op.on.toNat { x with items := its, senders := x.senders.drop 1 }) u = ofKey ((x.senders.drop 1).map fun l => (l.t, (⟨8, (op.on.toNat : Int), l.v⟩ : Waiting))) u ++ ofKey (x.getters.map fun t => (t, (⟨9, (op.on.toNat : Int), 0⟩ : Waiting))) u := fun its u => chan_fx _ _ _
    have hg0 : ∀ u ∈ x.gWho, ofKey (x.getters.map fun t => (t, (⟨9, (op.on.toNat : Int), 0⟩ : Waiting))) u = [] := fun u hu => by
      by_cases hs : x.senders = []
      · rw [hgw, hs] at hu; simp at hu
      · rw [(hv.se hs).2.1]; rfl
    refine r.onFits (s1 := sayM (setChan s op { x with items := x.gItems.drop 1, senders := x.senders.drop 1 }) (x.gItems.headD 0)) (who := x.gWho) ((r.ft.shared.setChan (s := s) hx (valid_of hv') rfl).of rfl rfl rfl rfl rfl) rfl rfl rfl hl
      (fun v h => by
        rcases List.mem_append.1 h with h | h
        · exact r.ft.said v h
        · simp only [List.mem_singleton] at h
          rw [h, head0 hc]; exact gv _ (List.getElem_mem hc))
      (sw _) (fun _ _ => rfl) (r.own0 (by omega)) (nd.1.sublist ((List.take_sublist _ _).map _)) (fun u hu => ⟨fun h => (t1 u hu).1 ?_, by rw [fx', (t1 u hu).2, hg0 u hu]; rfl⟩) (fun u hu _ => by rw [fx', chan_fx, t2 u hu]) ?_
    · rw [chan_fx, List.append_eq_nil_iff] at h; exact h.1
    · rw [chan_fx, List.append_eq_nil_iff] at h0
      rw [fx', h0.2, List.append_nil]
      by_cases hm : (k : Int) ∈ x.gWho
      · exact (t1 _ hm).2
      · exact (t2 _ hm).trans h0.1
  · simp only [if_neg hc] at hv' hl ⊢
    have hI : x.items = [] ∧ x.senders = [] := by
      simp [Chan.gItems] at hc
      refine ⟨hc.1, ?_⟩
      cases hs : x.senders with
      | nil => rfl
      | cons a r => simp [hs] at hc
    by_cases hcl : x.closed = true
    · simp only [if_pos hcl] at hv' hl ⊢
      rw [if_neg (by decide), if_neg (by decide)] at hl ⊢
      have fx : ∀ u, ofKey (evChan op.on.toNat { x with items := [], senders := [] }) u = ofKey (evChan op.on.toNat x) u := fun u => by
        rw [chan_fx, chan_fx, hI.2]
      exact r.onFits (s1 := setChan s op { x with items := [], senders := [] }) (who := []) (r.ft.shared.setChan (s := s) hx (valid_of hv') rfl) rfl rfl rfl r.ft.lsaid r.ft.said
        (sw _) (fun _ _ => rfl) (r.own0 (by omega)) (by simp) (fun u hu => by simp at hu) (fun u _ _ => fx u) ((fx _).trans h0)
    · simp only [if_neg hcl] at hv' hl ⊢
      rw [if_pos trivial] at hl ⊢
      have hadd : ∀ u, ofKey (evChan op.on.toNat { x with items := [], senders := [], getters := x.getters ++ [(k : Int)] }) u = ofKey (evChan op.on.toNat x) u ++ (if (k : Int) = u then [⟨9, op.on, 0⟩] else []) := fun u => by
        simp only [evChan, hI.2, List.map_append, ofKey_append, List.map_cons, List.map_nil, ofKey_one, hi, List.append_assoc]
      refine r.waitFits (s1 := setChan s op _) (b := 1) (r.ft.shared.setChan (s := s) hx (valid_of hv') rfl) rfl rfl rfl rfl (sw _) (fun _ _ => rfl) (fun u hu => ?_) (.inl ⟨rfl, ?_, r.own0 (by omega)⟩)
      · rw [hadd, if_neg (fun h => hu h.symm), List.append_nil]
      · rw [hadd, if_pos rfl, h0, want, if_neg (by omega), hk]; rfl

theorem close_fits {p : Prog} {s : State} {k : Nat} {ops : List Op} {a st : Int} {op : Op} (r : Rdy p s k ops a st op) (hk : op.kind = 10) : Fits p (doClose p s k op) := by
  obtain ⟨x, hx, hxa, hv, hval, hi⟩ := r.chan (by omega)
  have sw := fun x' => swap_chans hx x'
  have h0 := (sw x).none r.ev
  have nd := chan_nd hv
  rw [doClose, hxa]
  by_cases hc : x.close.2.2 = true
  · have hv' := close_valid hc
    obtain ⟨_, c1, c2⟩ := close_ok hc
    rw [if_pos hc]
    have hsd : x.close = ({ x with senders := [], getters := [], closed := true }, x.getters, true) := by
      rw [Chan.close, if_pos ⟨hv, c1, c2⟩]
    rw [hsd] at hv' ⊢
    obtain ⟨t1, t2⟩ := taken (fun t : Int => t) (fun t : Int => (⟨9, (op.on.toNat : Int), 0⟩ : Waiting)) x.getters x.getters.length (by simpa using nd.2)
    simp only [List.take_length, List.drop_length, List.map_id'] at t1 t2
    have fx : ∀ u, ofKey (evChan op.on.toNat x) u = ofKey (x.getters.map fun t => (t, (⟨9, (op.on.toNat : Int), 0⟩ : Waiting))) u := fun u => by rw [chan_fx, c2]; rfl
    exact r.onFits (s1 := setChan s op { x with senders := [], getters := [], closed := true }) (who := x.getters) (r.ft.shared.setChan (s := s) hx (valid_of hv') rfl) rfl rfl rfl r.ft.lsaid r.ft.said
      (sw _) (fun _ _ => rfl) (r.own0 (by omega)) nd.2 (fun u hu => ⟨by rw [fx]; exact (t1 u hu).1, rfl⟩) (fun u hu _ => by rw [fx]; exact t2 u hu) rfl
  · rw [if_neg hc]
    exact r.ft.fault (by omega) (by omega)

/-- A step keeps a state one of its program. -/
theorem step_fits {p : Prog} {s : State} {t : Int} (ft : Fits p s) (h : t ∈ readyM s) (hl : (doM p s t).said.length ≤ 64) (hw : ¬ Worn p s t) : Fits p (doM p s t) := by
  obtain ⟨k, ops, a, st, op, rfl, r⟩ := rdy ft h
  rw [Worn, r.at_] at hw
  rw [doM, r.at_, doOp] at hl ⊢
  by_cases k1 : op.kind = 1
  · simp only [if_pos k1] at hl ⊢
    rw [onM_said] at hl
    exact say_fits r k1 (by simpa [sayM] using hl)
  by_cases k2 : op.kind = 2
  · simp only [if_neg k1, if_pos k2] at hl ⊢; exact acquire_fits r k2
  by_cases k3 : op.kind = 3
  · simp only [if_neg k1, if_neg k2, if_pos k3] at hl ⊢; exact release_fits r k3
  by_cases k4 : op.kind = 4
  · simp only [if_neg k1, if_neg k2, if_neg k3, if_pos k4] at hl ⊢; exact once_fits r k4
  by_cases k5 : op.kind = 5
  · simp only [if_neg k1, if_neg k2, if_neg k3, if_neg k4, if_pos k5] at hl ⊢; exact add_fits r k5
  by_cases k6 : op.kind = 6
  · simp only [if_neg k1, if_neg k2, if_neg k3, if_neg k4, if_neg k5, if_pos k6] at hl ⊢; exact wait_fits r k6
  by_cases k7 : op.kind = 7
  · simp only [if_neg k1, if_neg k2, if_neg k3, if_neg k4, if_neg k5, if_neg k6, if_pos k7] at hl ⊢
    exact arrive_fits r k7 fun e => hw ⟨k7, e⟩
  by_cases k8 : op.kind = 8
  · simp only [if_neg k1, if_neg k2, if_neg k3, if_neg k4, if_neg k5, if_neg k6, if_neg k7, if_pos k8] at hl ⊢; exact send_fits r k8 hl
  by_cases k9 : op.kind = 9
  · simp only [if_neg k1, if_neg k2, if_neg k3, if_neg k4, if_neg k5, if_neg k6, if_neg k7, if_neg k8, if_pos k9] at hl ⊢; exact get_fits r k9 hl
  simp only [if_neg k1, if_neg k2, if_neg k3, if_neg k4, if_neg k5, if_neg k6, if_neg k7, if_neg k8, if_neg k9] at hl ⊢
  have h10 := r.ok.2.1
  have h11 := r.ok.1
  exact close_fits r (by omega)

/-- A worn barrier's step leads to no state of the program. -/
theorem worn_no {p : Prog} {s : State} {t : Int} (ft : Fits p s) (h : t ∈ readyM s) (hw : Worn p s t) : ¬ Fits p (doM p s t) := by
  obtain ⟨k, ops, a, st, op, rfl, r⟩ := rdy ft h
  rw [Worn, r.at_] at hw
  obtain ⟨k7, hw⟩ := hw
  obtain ⟨x, hx, hxa, ok, hi⟩ := r.barrier k7
  have e : doM p s (k : Int) = waitM (setBarrier s op ⟨0, 0, []⟩) k 1 := by
    simp only [doM, r.at_, doOp, k7, doArrive, hw]
    simp
  rw [e]
  intro f
  have hi : op.on.toNat < s.barriers.length := (List.getElem?_eq_some_iff.1 hx).1
  have h1 := (f.barriers op.on.toNat ⟨0, 0, []⟩ (by simp [waitM, setBarrier, hi])).1.1
  simp at h1

/-- What a step answers. -/
def StepOk (p : Prog) (s : State) (t : Int) : Prop := Fits p s ∧ t ∈ readyM s ∧ (doM p s t).said.length ≤ 64 ∧ Fits p (doM p s t)

theorem stepOk_iff {p : Prog} {s : State} {t : Int} : StepOk p s t ↔ Fits p s ∧ t ∈ readyM s ∧ (doM p s t).said.length ≤ 64 ∧ ¬ Worn p s t :=
  ⟨fun ⟨h1, h2, h3, h4⟩ => ⟨h1, h2, h3, fun hw => worn_no h1 h2 hw h4⟩, fun ⟨h1, h2, h3, h4⟩ => ⟨h1, h2, h3, step_fits h1 h2 h3 h4⟩⟩

end Go.Proofs.Ytjkkoonennpceaa

namespace Go.Proofs.Ytjkkoonennpceaa

open Go Go.Sx Go.RowKit

theorem Fits.small {p : Prog} {s : State} (h : Fits p s) : s.small20 := by
  have n4 := h.prog.n4
  have e0 := h.np
  have e1 := h.ns
  have e2 := h.lsems
  have e3 := h.lonces
  have e4 := h.lgroups
  have e5 := h.lbarriers
  have e6 := h.lchans
  have e7 := h.lsaid
  have m0 := h.prog.sems.1
  have m1 := h.prog.groups.1
  have m2 := h.prog.barriers.1
  have m3 := h.prog.rooms.1
  refine ⟨by omega, by omega, ⟨by omega, fun x hx => ?_⟩, ⟨by omega, fun x hx => ?_⟩, ⟨by omega, fun x hx => ?_⟩, ⟨by omega, fun x hx => ?_⟩, ⟨by omega, fun x hx => ?_⟩, by omega⟩
  · obtain ⟨i, hi, rfl⟩ := List.getElem_of_mem hx
    have := (h.sems i _ (List.getElem?_eq_getElem hi)).1.q6
    unfold Sem.small20; omega
  · have := onceOk_len (h.onces x hx)
    unfold Once.small20; omega
  · have := groupOk_len (h.groups x hx)
    unfold Group.small20; omega
  · obtain ⟨i, hi, rfl⟩ := List.getElem_of_mem hx
    have := barrierOk_len (h.barriers i _ (List.getElem?_eq_getElem hi)).1
    unfold Barrier.small20; omega
  · obtain ⟨i, hi, rfl⟩ := List.getElem_of_mem hx
    have hv := (h.chans i _ (List.getElem?_eq_getElem hi)).1
    have h1 := chanOk_len hv
    have h2 : (s.chans[i]).Valid := by simpa [Chan.valid] using hv
    have := h2.it
    have := h2.r1
    refine ⟨by omega, by omega, by omega⟩

end Go.Proofs.Ytjkkoonennpceaa

namespace Go.Proofs.Ytjkkoonennpceaa

open Go Go.Sx Go.RowKit

theorem Chan.Valid.small {m : Chan} (hv : m.Valid) : m.small := by
  have := hv.len
  exact ⟨by omega, by omega, by omega⟩

/-- The owner of a once that a thread's status tells of. -/
theorem Rdy.owner {p : Prog} {s : State} {k : Nat} {ops : List Op} {a st : Int} {op : Op} (r : Rdy p s k ops a st op) {x : Once} (hx : s.onces[op.on.toNat]? = some x) (hi : ((op.on.toNat : Nat) : Int) = op.on) (h2 : st = 2) : x.state = 1 ∧ x.owner = k := by
  have hown : ofKey (owners s) k = [op.on] := by
    rcases r.ow with ⟨e, _⟩ | ⟨_, _, e⟩
    · omega
    · exact e
  have hm : op.on ∈ ofKey (owners s) k := by rw [hown]; simp
  obtain ⟨j, y, hy, h1, h2, h3⟩ := owners_mem.1 hm
  have e : op.on.toNat = j := by omega
  rw [← e, hx] at hy
  injection hy with hy
  subst hy
  exact ⟨h1, h2⟩

end Go.Proofs.Ytjkkoonennpceaa

namespace Go.Proofs.Ytjkkoonennpceaa

open Go Go.Sx Go.RowKit

/-- A run is over. -/
def Over (p : Prog) (s : State) : Prop := Fits p s ∧ s.fault = 0 ∧ ∀ x ∈ s.status, x = 3

set_option maxHeartbeats 4000000 in
set_option maxRecDepth 100000 in
theorem isOver_c (p : ProgH) (s : StateH) (w : World) (h : At w [fR (progO p), fR (stateO s)]) (hp : p.pure.small20) (hs : s.pure.small20) :
    Calls Try.prog 11 #[progV p, stateV s] w (Tells w (Over p.pure s.pure)) := by
  have hb : s.status.length ≤ 1048576 := hs.2.1
  refine calls2 Try.func11 rfl tabOk w _ rfl _ rfl _ h ⟨rfl, rfl, rfl, rfl, trivial⟩ _ _ (by decide) ?_
  refine stop_call _ cl9 rfl rfl rfl rfl ⟨rfl, rfl⟩ (fun A w hW => stateFits_c p s w ⟨hW.get 0 rfl (.refl _), hW.get 1 rfl (.refl _), trivial⟩ hp hs) ?_
  rintro v L ⟨b, rfl, hbb, rfl⟩
  refine CaseB.mk (fun g => ?_) (fun g => ?_)
  · have ft := hbb.1 (by simpa using g)
    refine CaseB.mk (fun g => ?_) (fun g => ?_)
    · have f0 : s.fault = 0 := by simpa using g
      refine stop_call _ cl39 rfl rfl rfl rfl ⟨rfl, rfl⟩ (fun A w hW => allDone_c s w ⟨hW.get 1 rfl (.refl _), trivial⟩ hb) ?_
      rintro v L ⟨b2, rfl, hb2, rfl⟩
      exact retw [] ⟨_, rfl, hb2.trans ⟨fun e => ⟨ft, f0, e⟩, fun e => e.2.2⟩, rfl⟩ trivial rfl trivial (fun _ => rfl)
    · have f0 : ¬ s.fault = 0 := by simpa using g
      exact retw [] ⟨_, rfl, tno fun e => f0 e.2.1, rfl⟩ trivial rfl trivial (fun _ => rfl)
  · exact retw [] ⟨_, rfl, tno fun e => (by rw [hbb.2 e.1] at g; cases g), rfl⟩ trivial rfl trivial (fun _ => rfl)

end Go.Proofs.Ytjkkoonennpceaa

namespace Go.Proofs.Ytjkkoonennpceaa

open Go Go.Sx Go.RowKit

/-- What ReadyThreads answers. -/
def ReadyAns (p : Prog) (s : State) (v : Value) (L : List Fct) : Prop := ∃ (y : Sl) (xs : List Int), v = y.val xs.length ∧ (Fits p s → xs = readyM s) ∧ (¬ Fits p s → xs = []) ∧ L = [own y 3 cInt 1 xs]

set_option maxHeartbeats 4000000 in
set_option maxRecDepth 100000 in
theorem readyThreads_c (p : ProgH) (s : StateH) (w : World) (h : At w [fR (progO p), fR (stateO s)]) (hp : p.pure.small20) (hs : s.pure.small20) :
    Calls Try.prog 10 #[progV p, stateV s] w (Ret w (ReadyAns p.pure s.pure)) := by
  have hb : s.status.length ≤ 1048576 := hs.2.1
  refine calls2 Try.func10 rfl tabOk w _ rfl _ rfl _ h ⟨rfl, rfl, rfl, rfl, trivial⟩ _ _ (by decide) ?_
  refine stop_call _ cl9 rfl rfl rfl rfl ⟨rfl, rfl⟩ (fun A w hW => stateFits_c p s w ⟨hW.get 0 rfl (.refl _), hW.get 1 rfl (.refl _), trivial⟩ hp hs) ?_
  rintro v L ⟨b, rfl, hbb, rfl⟩
  refine CaseB.mk (fun g => ?_) (fun g => ?_)
  · have n : ¬ Fits p.pure s.pure := fun e => by rw [hbb.2 e] at g; cases g
    exact retw [90] ⟨⟨none, 0⟩, [], rfl, fun e => (n e).elim, fun _ => rfl, rfl⟩ ⟨.inr ⟨Nat.le_of_ble_eq_true rfl, rfl, rfl, rfl, rfl⟩, trivial⟩ rfl ⟨rfl, trivial⟩ (fun _ => rfl)
  have ft := hbb.1 (by simpa using g)
  refine stop_call _ cl38 rfl rfl rfl rfl ⟨rfl, rfl⟩ (fun A w hW => ready_c s w ⟨hW.get 1 rfl (.refl _), trivial⟩ hb) ?_
  rintro v L ⟨y, rfl, rfl⟩
  exact retw [0] ⟨y, _, rfl, fun _ => rfl, fun e => (e ft).elim, rfl⟩ ⟨.inl ⟨_, rfl, rfl⟩, trivial⟩ rfl ⟨rfl, trivial⟩ (fun _ => rfl)

end Go.Proofs.Ytjkkoonennpceaa
