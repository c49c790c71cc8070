/- FnExactStateFits: texts that its proof stands on, part 8. -/
import Derived.Test.YtklclbcckjhdpaaGreatQExactStateFitsg
namespace Go.Proofs.YtklclbcckjhdpaaGreat

open Go Go.Sx Go.RowKit

set_option maxHeartbeats 2000000 in
set_option maxRecDepth 100000 in
theorem validS_c (m : Chan) (i s g : Sl) (w : World) (h : At w [slo i cInt 1 m.items, slo s cLet 2 m.senders, slo g cInt 1 m.getters]) (hb : m.small) :
    Calls Tryz.prog 163 #[chanV m i s g] w (Ret w fun v L => v = .bool m.valid ∧ L = []) := by
  obtain ⟨b1, b2, b3⟩ := hb
  have bT : m.threads.length ≤ 8589934592 := by simp [Chan.threads]; omega
  have hno : ∀ {P : Prop}, ¬ P → (m.Valid → P) → ∀ A, resV A [SV.lit false] = Value.bool m.valid := fun h1 h2 _ => Chan.invalid fun hv => h1 (h2 hv)
  refine calls1 Tryz.func163 rfl tabOk w _ rfl _ rfl _ h ⟨rfl, rfl, rfl, rfl, rfl, rfl, trivial⟩ _ (by decide) ?_
  refine CaseB.mk (fun h1 => ?_) (fun h1 => ?_)
  · exact retw [] ⟨rfl, rfl⟩ trivial rfl trivial (hno (by simp at h1; omega) Chan.Valid.r0)
  · have r0 : 0 ≤ m.room := by simp at h1; omega
    refine CaseB.mk (fun h2 => ?_) (fun h2 => ?_)
    · exact retw [] ⟨rfl, rfl⟩ trivial rfl trivial (hno (by simp at h2; omega) Chan.Valid.r1)
    · have r1 : m.room ≤ 4 := by simp at h2; omega
      refine CaseB.mk (fun h3 => ?_) (fun h3 => ?_)
      · exact retw [] ⟨rfl, rfl⟩ trivial rfl trivial (hno (by simp at h3; omega) Chan.Valid.it)
      · have it : (m.items.length : Int) ≤ m.room := by simp at h3; omega
        refine CaseB.mk (fun h4 => ?_) (fun h4 => ?_)
        · exact retw [] ⟨rfl, rfl⟩ trivial rfl trivial (hno (P := m.senders.length ≤ 6) (by simp at h4; omega) (fun hv => by have := distinct_len hv.di; simp [Chan.threads] at this; omega))
        refine CaseB.mk (fun h5 => ?_) (fun h5 => ?_)
        · exact retw [] ⟨rfl, rfl⟩ trivial rfl trivial (hno (P := m.getters.length ≤ 6) (by simp at h5; omega) (fun hv => by have := distinct_len hv.di; simp [Chan.threads] at this; omega))
        have e7 : m.senders.take 7 = m.senders := List.take_of_length_le (by simp at h4; omega)
        refine LoopW.mk ⟨{ k : Nat // k ≤ m.items.length ∧ ∀ x ∈ m.items.take k, isValue x = true },
          fun p => .mk [(1, .p 0 0), (3, .v (.int .i64 p.1))] 1 0 [(0, 119, 5)] [((0, 0), .v (.int .i64 m.room)), ((0, 1), .v (i.val m.items.length)), ((0, 2), .v (s.val m.senders.length)), ((0, 3), .v (g.val m.getters.length)), ((0, 4), .v (.bool m.closed))] [slo i cInt 1 m.items, slo s cLet 2 m.senders, slo g cInt 1 m.getters],
          fun p => m.items.length - p.1, ⟨0, Nat.zero_le _, by simp⟩, ?_, ?_⟩
        · refine weak_mk [0, 1, 2] ?_ ?_ ?_ ?_ ?_ rfl rfl
          · repeat (first | exact trivial | refine ⟨⟨_, rfl, (by first | exact .of rfl | exact .lit rfl | exact .of (by first | (rfl)) | exact .lit (by first | (rfl))), (by first | exact trivial | exact Nat.le_of_ble_eq_true rfl)⟩, ?_⟩)
          · repeat (first | exact trivial | refine ⟨⟨(by first | exact .head _ | exact .tail _ (.head _) | exact .tail _ (.tail _ (.head _)) | exact .tail _ (.tail _ (.tail _ (.head _))) | exact .tail _ (.tail _ (.tail _ (.tail _ (.head _)))) | exact .tail _ (.tail _ (.tail _ (.tail _ (.tail _ (.head _))))) | exact .tail _ (.tail _ (.tail _ (.tail _ (.tail _ (.tail _ (.head _)))))) | exact .tail _ (.tail _ (.tail _ (.tail _ (.tail _ (.tail _ (.tail _ (.head _))))))) | exact .tail _ (.tail _ (.tail _ (.tail _ (.tail _ (.tail _ (.tail _ (.tail _ (.head _)))))))) | exact .tail _ (.tail _ (.tail _ (.tail _ (.tail _ (.tail _ (.tail _ (.tail _ (.tail _ (.head _)))))))))), Nat.le_of_ble_eq_true rfl⟩, ?_⟩)
          · repeat (first | exact trivial | refine ⟨⟨_, rfl, (by first | exact .of rfl | exact .lit rfl | exact .of (by first | (rfl)) | exact .lit (by first | (rfl))), (by first | exact trivial | exact Nat.le_of_ble_eq_true rfl)⟩, ?_⟩)
          · repeat (first | exact trivial | refine ⟨⟨_, rfl⟩, ?_⟩)
          · repeat (first | exact trivial | refine ⟨.inl ⟨_, rfl, (by first | rfl | (rfl))⟩, ?_⟩ | refine ⟨.inr ⟨Nat.le_of_ble_eq_true rfl, rfl, rfl, rfl, rfl⟩, ?_⟩)
        · rintro ⟨k, hk, ha⟩
          refine CaseB.mk (fun h => ?_) (fun h => ?_)
          · have hlt : k < m.items.length := by simpa using h
            refine stop_idx encInt tabOk rfl rfl rfl rfl rfl ⟨rfl, rfl⟩ (by first | exact rdAt 0 rfl | exact rdOwnAt 0 rfl | exact rdAt 1 rfl | exact rdOwnAt 1 rfl | exact rdAt 2 rfl | exact rdOwnAt 2 rfl | exact rdAt 3 rfl | exact rdOwnAt 3 rfl | exact rdAt 4 rfl | exact rdOwnAt 4 rfl | exact rdAt 5 rfl | exact rdOwnAt 5 rfl | exact rdAt 6 rfl | exact rdOwnAt 6 rfl | exact rdAt 7 rfl | exact rdOwnAt 7 rfl | exact rdAt 8 rfl | exact rdOwnAt 8 rfl | exact rdAt 9 rfl | exact rdOwnAt 9 rfl | exact rdAt 10 rfl | exact rdOwnAt 10 rfl | exact rdAt 11 rfl | exact rdOwnAt 11 rfl | exact rdAt 12 rfl | exact rdOwnAt 12 rfl | exact rdAt 13 rfl | exact rdOwnAt 13 rfl | exact rdAt 14 rfl | exact rdOwnAt 14 rfl | exact rdAt 15 rfl | exact rdOwnAt 15 rfl | exact rdAt 16 rfl | exact rdOwnAt 16 rfl | exact rdAt 17 rfl | exact rdOwnAt 17 rfl | exact rdAt 18 rfl | exact rdOwnAt 18 rfl | exact rdAt 19 rfl | exact rdOwnAt 19 rfl | exact rdAt 20 rfl | exact rdOwnAt 20 rfl | exact rdAt 21 rfl | exact rdOwnAt 21 rfl | exact rdAt 22 rfl | exact rdOwnAt 22 rfl | exact rdAt 23 rfl | exact rdOwnAt 23 rfl) k rfl (by first | omega | (simp; done) | (simp; omega) | (unfold maxLen; omega) | (unfold maxLen; simp; done) | (unfold maxLen; simp; omega)) (fun ad => ?_)
            refine stop_call _ cl96 rfl rfl rfl rfl ⟨rfl, rfl⟩ (fun A w hW => l2Value_c _ w) ?_
            rintro v L ⟨rfl, rfl⟩
            refine CaseB.mk (fun h => ?_) (fun h => ?_)
            · exact retw [] ⟨rfl, rfl⟩ trivial rfl trivial (hno (by simpa using h) (fun hv => hv.iv _ (List.getElem_mem hlt)))
            · have hw := wrapN k _ hlt b1
              refine ⟨⟨k + 1, by omega, all_take_succ hlt ha (by simpa using h)⟩, ?_, by simp; omega⟩
              refine weak_mk [0, 1, 2] ?_ ?_ ?_ ?_ ?_ rfl rfl
              · repeat (first | exact trivial | refine ⟨⟨_, rfl, (by first | exact .of rfl | exact .lit rfl | exact .of (by first | ((exact congrArg (fun z => SV.v (Value.int .i64 z)) hw))) | exact .lit (by first | ((exact congrArg (fun z => SV.v (Value.int .i64 z)) hw)))), (by first | exact trivial | exact Nat.le_of_ble_eq_true rfl)⟩, ?_⟩)
              · repeat (first | exact trivial | refine ⟨⟨(by first | exact .head _ | exact .tail _ (.head _) | exact .tail _ (.tail _ (.head _)) | exact .tail _ (.tail _ (.tail _ (.head _))) | exact .tail _ (.tail _ (.tail _ (.tail _ (.head _)))) | exact .tail _ (.tail _ (.tail _ (.tail _ (.tail _ (.head _))))) | exact .tail _ (.tail _ (.tail _ (.tail _ (.tail _ (.tail _ (.head _)))))) | exact .tail _ (.tail _ (.tail _ (.tail _ (.tail _ (.tail _ (.tail _ (.head _))))))) | exact .tail _ (.tail _ (.tail _ (.tail _ (.tail _ (.tail _ (.tail _ (.tail _ (.head _)))))))) | exact .tail _ (.tail _ (.tail _ (.tail _ (.tail _ (.tail _ (.tail _ (.tail _ (.tail _ (.head _)))))))))), Nat.le_of_ble_eq_true rfl⟩, ?_⟩)
              · repeat (first | exact trivial | refine ⟨⟨_, rfl, (by first | exact .of rfl | exact .lit rfl | exact .of (by first | ((exact congrArg (fun z => SV.v (Value.int .i64 z)) hw))) | exact .lit (by first | ((exact congrArg (fun z => SV.v (Value.int .i64 z)) hw)))), (by first | exact trivial | exact Nat.le_of_ble_eq_true rfl)⟩, ?_⟩)
              · repeat (first | exact trivial | refine ⟨⟨_, rfl⟩, ?_⟩)
              · repeat (first | exact trivial | refine ⟨.inl ⟨_, rfl, (by first | rfl | ((exact congrArg (fun z => SV.v (Value.int .i64 z)) hw)))⟩, ?_⟩ | refine ⟨.inr ⟨Nat.le_of_ble_eq_true rfl, rfl, rfl, rfl, rfl⟩, ?_⟩)
          · have hge : m.items.length ≤ k := by simpa using h
            rw [List.take_of_length_le hge] at ha
            refine LoopW.mk ⟨{ k : Nat // k ≤ m.senders.length ∧ ∀ x ∈ m.senders.take k, isValue x.v = true },
              fun p => .mk [(1, .p 0 0), (4, .v (.int .i64 p.1))] 1 0 [(0, 119, 5)] [((0, 0), .v (.int .i64 m.room)), ((0, 1), .v (i.val m.items.length)), ((0, 2), .v (s.val m.senders.length)), ((0, 3), .v (g.val m.getters.length)), ((0, 4), .v (.bool m.closed))] [slo i cInt 1 m.items, slo s cLet 2 m.senders, slo g cInt 1 m.getters],
              fun p => m.senders.length - p.1, ⟨0, Nat.zero_le _, by simp⟩, ?_, ?_⟩
            · refine weak_mk [0, 1, 2] ?_ ?_ ?_ ?_ ?_ rfl rfl
              · repeat (first | exact trivial | refine ⟨⟨_, rfl, (by first | exact .of rfl | exact .lit rfl | exact .of (by first | (rfl)) | exact .lit (by first | (rfl))), (by first | exact trivial | exact Nat.le_of_ble_eq_true rfl)⟩, ?_⟩)
              · repeat (first | exact trivial | refine ⟨⟨(by first | exact .head _ | exact .tail _ (.head _) | exact .tail _ (.tail _ (.head _)) | exact .tail _ (.tail _ (.tail _ (.head _))) | exact .tail _ (.tail _ (.tail _ (.tail _ (.head _)))) | exact .tail _ (.tail _ (.tail _ (.tail _ (.tail _ (.head _))))) | exact .tail _ (.tail _ (.tail _ (.tail _ (.tail _ (.tail _ (.head _)))))) | exact .tail _ (.tail _ (.tail _ (.tail _ (.tail _ (.tail _ (.tail _ (.head _))))))) | exact .tail _ (.tail _ (.tail _ (.tail _ (.tail _ (.tail _ (.tail _ (.tail _ (.head _)))))))) | exact .tail _ (.tail _ (.tail _ (.tail _ (.tail _ (.tail _ (.tail _ (.tail _ (.tail _ (.head _)))))))))), Nat.le_of_ble_eq_true rfl⟩, ?_⟩)
              · repeat (first | exact trivial | refine ⟨⟨_, rfl, (by first | exact .of rfl | exact .lit rfl | exact .of (by first | (rfl)) | exact .lit (by first | (rfl))), (by first | exact trivial | exact Nat.le_of_ble_eq_true rfl)⟩, ?_⟩)
              · repeat (first | exact trivial | refine ⟨⟨_, rfl⟩, ?_⟩)
              · repeat (first | exact trivial | refine ⟨.inl ⟨_, rfl, (by first | rfl | (rfl))⟩, ?_⟩ | refine ⟨.inr ⟨Nat.le_of_ble_eq_true rfl, rfl, rfl, rfl, rfl⟩, ?_⟩)
            · rintro ⟨k, hk, hs⟩
              refine CaseB.mk (fun h => ?_) (fun h => ?_)
              · have hlt : k < m.senders.length := by simpa using h
                refine stop_idx encLet tabOk rfl rfl rfl rfl rfl ⟨rfl, rfl⟩ (by first | exact rdAt 0 rfl | exact rdOwnAt 0 rfl | exact rdAt 1 rfl | exact rdOwnAt 1 rfl | exact rdAt 2 rfl | exact rdOwnAt 2 rfl | exact rdAt 3 rfl | exact rdOwnAt 3 rfl | exact rdAt 4 rfl | exact rdOwnAt 4 rfl | exact rdAt 5 rfl | exact rdOwnAt 5 rfl | exact rdAt 6 rfl | exact rdOwnAt 6 rfl | exact rdAt 7 rfl | exact rdOwnAt 7 rfl | exact rdAt 8 rfl | exact rdOwnAt 8 rfl | exact rdAt 9 rfl | exact rdOwnAt 9 rfl | exact rdAt 10 rfl | exact rdOwnAt 10 rfl | exact rdAt 11 rfl | exact rdOwnAt 11 rfl | exact rdAt 12 rfl | exact rdOwnAt 12 rfl | exact rdAt 13 rfl | exact rdOwnAt 13 rfl | exact rdAt 14 rfl | exact rdOwnAt 14 rfl | exact rdAt 15 rfl | exact rdOwnAt 15 rfl | exact rdAt 16 rfl | exact rdOwnAt 16 rfl | exact rdAt 17 rfl | exact rdOwnAt 17 rfl | exact rdAt 18 rfl | exact rdOwnAt 18 rfl | exact rdAt 19 rfl | exact rdOwnAt 19 rfl | exact rdAt 20 rfl | exact rdOwnAt 20 rfl | exact rdAt 21 rfl | exact rdOwnAt 21 rfl | exact rdAt 22 rfl | exact rdOwnAt 22 rfl | exact rdAt 23 rfl | exact rdOwnAt 23 rfl) k rfl (by first | omega | (simp; done) | (simp; omega) | (unfold maxLen; omega) | (unfold maxLen; simp; done) | (unfold maxLen; simp; omega)) (fun ad => ?_)
                refine stop_call _ cl96 rfl rfl rfl rfl ⟨rfl, rfl⟩ (fun A w hW => l2Value_c _ w) ?_
                rintro v L ⟨rfl, rfl⟩
                refine CaseB.mk (fun h => ?_) (fun h => ?_)
                · exact retw [] ⟨rfl, rfl⟩ trivial rfl trivial (hno (by simpa using h) (fun hv => hv.sv _ (List.getElem_mem hlt)))
                · have hw := wrapN k _ hlt b2
                  refine ⟨⟨k + 1, by omega, all_take_succ (p := fun l : Letter => isValue l.v = true) hlt hs (by simpa using h)⟩, ?_, by simp; omega⟩
                  refine weak_mk [0, 1, 2] ?_ ?_ ?_ ?_ ?_ rfl rfl
                  · repeat (first | exact trivial | refine ⟨⟨_, rfl, (by first | exact .of rfl | exact .lit rfl | exact .of (by first | ((exact congrArg (fun z => SV.v (Value.int .i64 z)) hw))) | exact .lit (by first | ((exact congrArg (fun z => SV.v (Value.int .i64 z)) hw)))), (by first | exact trivial | exact Nat.le_of_ble_eq_true rfl)⟩, ?_⟩)
                  · repeat (first | exact trivial | refine ⟨⟨(by first | exact .head _ | exact .tail _ (.head _) | exact .tail _ (.tail _ (.head _)) | exact .tail _ (.tail _ (.tail _ (.head _))) | exact .tail _ (.tail _ (.tail _ (.tail _ (.head _)))) | exact .tail _ (.tail _ (.tail _ (.tail _ (.tail _ (.head _))))) | exact .tail _ (.tail _ (.tail _ (.tail _ (.tail _ (.tail _ (.head _)))))) | exact .tail _ (.tail _ (.tail _ (.tail _ (.tail _ (.tail _ (.tail _ (.head _))))))) | exact .tail _ (.tail _ (.tail _ (.tail _ (.tail _ (.tail _ (.tail _ (.tail _ (.head _)))))))) | exact .tail _ (.tail _ (.tail _ (.tail _ (.tail _ (.tail _ (.tail _ (.tail _ (.tail _ (.head _)))))))))), Nat.le_of_ble_eq_true rfl⟩, ?_⟩)
                  · repeat (first | exact trivial | refine ⟨⟨_, rfl, (by first | exact .of rfl | exact .lit rfl | exact .of (by first | ((exact congrArg (fun z => SV.v (Value.int .i64 z)) hw))) | exact .lit (by first | ((exact congrArg (fun z => SV.v (Value.int .i64 z)) hw)))), (by first | exact trivial | exact Nat.le_of_ble_eq_true rfl)⟩, ?_⟩)
                  · repeat (first | exact trivial | refine ⟨⟨_, rfl⟩, ?_⟩)
                  · repeat (first | exact trivial | refine ⟨.inl ⟨_, rfl, (by first | rfl | ((exact congrArg (fun z => SV.v (Value.int .i64 z)) hw)))⟩, ?_⟩ | refine ⟨.inr ⟨Nat.le_of_ble_eq_true rfl, rfl, rfl, rfl, rfl⟩, ?_⟩)
              · have hge : m.senders.length ≤ k := by simpa using h
                rw [List.take_of_length_le hge] at hs
                refine draw_start tabOk (by kernel_rfl) (by kernel_rfl) (by kernel_rfl) 200 [((0, 2), .v (s.val m.senders.length)), ((0, 3), .v (g.val m.getters.length))] [0, 1, 2] [_, _, _] ⟨⟨_, rfl, rfl, (by first | exact trivial | exact Nat.le_of_ble_eq_true rfl)⟩, ⟨_, rfl, rfl, (by first | exact trivial | exact Nat.le_of_ble_eq_true rfl)⟩, trivial⟩ ⟨⟨_, rfl⟩, ⟨_, rfl⟩, trivial⟩ ⟨rfl, rfl, rfl, trivial⟩ rfl ?_
                refine d_call _ cl164 rfl rfl rfl rfl ⟨rfl, rfl⟩ (fun A w hW => l5Threads_c s m.senders w ⟨(by first | exact hW.rd 0 rfl | exact hW.rdOwn 0 rfl | exact hW.rd 1 rfl | exact hW.rdOwn 1 rfl | exact hW.rd 2 rfl | exact hW.rdOwn 2 rfl | exact hW.rd 3 rfl | exact hW.rdOwn 3 rfl | exact hW.rd 4 rfl | exact hW.rdOwn 4 rfl | exact hW.rd 5 rfl | exact hW.rdOwn 5 rfl | exact hW.rd 6 rfl | exact hW.rdOwn 6 rfl | exact hW.rd 7 rfl | exact hW.rdOwn 7 rfl | exact hW.rd 8 rfl | exact hW.rdOwn 8 rfl | exact hW.rd 9 rfl | exact hW.rdOwn 9 rfl | exact hW.rd 10 rfl | exact hW.rdOwn 10 rfl | exact hW.rd 11 rfl | exact hW.rdOwn 11 rfl | exact hW.rd 12 rfl | exact hW.rdOwn 12 rfl | exact hW.rd 13 rfl | exact hW.rdOwn 13 rfl | exact hW.rd 14 rfl | exact hW.rdOwn 14 rfl | exact hW.rd 15 rfl | exact hW.rdOwn 15 rfl | exact hW.rd 16 rfl | exact hW.rdOwn 16 rfl | exact hW.rd 17 rfl | exact hW.rdOwn 17 rfl | exact hW.rd 18 rfl | exact hW.rdOwn 18 rfl | exact hW.rd 19 rfl | exact hW.rdOwn 19 rfl | exact hW.rd 20 rfl | exact hW.rdOwn 20 rfl | exact hW.rd 21 rfl | exact hW.rdOwn 21 rfl | exact hW.rd 22 rfl | exact hW.rdOwn 22 rfl | exact hW.rd 23 rfl | exact hW.rdOwn 23 rfl), trivial⟩ b2) ?_
                rw [e7]
                rintro v L ⟨y, rfl, rfl⟩
                refine d_appK (ti := tiOf tab) encInt tabOk  rfl rfl rfl rfl rfl rfl rfl rfl rfl (by decide) ⟨rfl, rfl⟩ (by first | exact isAt 0 rfl | exact isAt 1 rfl | exact isAt 2 rfl | exact isAt 3 rfl | exact isAt 4 rfl | exact isAt 5 rfl | exact isAt 6 rfl | exact isAt 7 rfl | exact isAt 8 rfl | exact isAt 9 rfl | exact isAt 10 rfl | exact isAt 11 rfl) (by first | exact rdAt 0 rfl | exact rdOwnAt 0 rfl | exact rdAt 1 rfl | exact rdOwnAt 1 rfl | exact rdAt 2 rfl | exact rdOwnAt 2 rfl | exact rdAt 3 rfl | exact rdOwnAt 3 rfl | exact rdAt 4 rfl | exact rdOwnAt 4 rfl | exact rdAt 5 rfl | exact rdOwnAt 5 rfl | exact rdAt 6 rfl | exact rdOwnAt 6 rfl | exact rdAt 7 rfl | exact rdOwnAt 7 rfl | exact rdAt 8 rfl | exact rdOwnAt 8 rfl | exact rdAt 9 rfl | exact rdOwnAt 9 rfl | exact rdAt 10 rfl | exact rdOwnAt 10 rfl | exact rdAt 11 rfl | exact rdOwnAt 11 rfl | exact rdAt 12 rfl | exact rdOwnAt 12 rfl | exact rdAt 13 rfl | exact rdOwnAt 13 rfl | exact rdAt 14 rfl | exact rdOwnAt 14 rfl | exact rdAt 15 rfl | exact rdOwnAt 15 rfl | exact rdAt 16 rfl | exact rdOwnAt 16 rfl | exact rdAt 17 rfl | exact rdOwnAt 17 rfl | exact rdAt 18 rfl | exact rdOwnAt 18 rfl | exact rdAt 19 rfl | exact rdOwnAt 19 rfl | exact rdAt 20 rfl | exact rdOwnAt 20 rfl | exact rdAt 21 rfl | exact rdOwnAt 21 rfl | exact rdAt 22 rfl | exact rdOwnAt 22 rfl | exact rdAt 23 rfl | exact rdOwnAt 23 rfl) (by first | omega | (simp; done) | (simp; omega) | (unfold maxLen; omega) | (unfold maxLen; simp; done) | (unfold maxLen; simp; omega)) (by first | omega | (simp; done) | (simp; omega) | (unfold maxLen; omega) | (unfold maxLen; simp; done) | (unfold maxLen; simp; omega)) (by simp [keepF]) (fun z => ?_)
                refine d_call _ cl199 rfl rfl rfl rfl ⟨rfl, rfl⟩ (fun A w hW => l2Waits_c z m.threads w ⟨(by first | exact hW.rd 0 rfl | exact hW.rdOwn 0 rfl | exact hW.rd 1 rfl | exact hW.rdOwn 1 rfl | exact hW.rd 2 rfl | exact hW.rdOwn 2 rfl | exact hW.rd 3 rfl | exact hW.rdOwn 3 rfl | exact hW.rd 4 rfl | exact hW.rdOwn 4 rfl | exact hW.rd 5 rfl | exact hW.rdOwn 5 rfl | exact hW.rd 6 rfl | exact hW.rdOwn 6 rfl | exact hW.rd 7 rfl | exact hW.rdOwn 7 rfl | exact hW.rd 8 rfl | exact hW.rdOwn 8 rfl | exact hW.rd 9 rfl | exact hW.rdOwn 9 rfl | exact hW.rd 10 rfl | exact hW.rdOwn 10 rfl | exact hW.rd 11 rfl | exact hW.rdOwn 11 rfl | exact hW.rd 12 rfl | exact hW.rdOwn 12 rfl | exact hW.rd 13 rfl | exact hW.rdOwn 13 rfl | exact hW.rd 14 rfl | exact hW.rdOwn 14 rfl | exact hW.rd 15 rfl | exact hW.rdOwn 15 rfl | exact hW.rd 16 rfl | exact hW.rdOwn 16 rfl | exact hW.rd 17 rfl | exact hW.rdOwn 17 rfl | exact hW.rd 18 rfl | exact hW.rdOwn 18 rfl | exact hW.rd 19 rfl | exact hW.rdOwn 19 rfl | exact hW.rd 20 rfl | exact hW.rdOwn 20 rfl | exact hW.rd 21 rfl | exact hW.rdOwn 21 rfl | exact hW.rd 22 rfl | exact hW.rdOwn 22 rfl | exact hW.rd 23 rfl | exact hW.rdOwn 23 rfl), trivial⟩ bT) ?_
                rintro v L ⟨rfl, rfl⟩
                refine CaseB.mk (fun h => ?_) (fun h => ?_)
                · exact retw [] ⟨rfl, rfl⟩ trivial rfl trivial (hno (by simpa using h) Chan.Valid.di)
                · have hd : distinct m.threads = true := by simpa using h
                  have fin : (m.senders ≠ [] → (m.items.length : Int) = m.room ∧ m.getters = [] ∧ m.closed = false) → (m.getters ≠ [] → m.items = [] ∧ m.closed = false) → m.Valid := fun x y => ⟨r0, r1, it, ha, hs, hd, x, y⟩
                  refine CaseB.mk (fun q1 => ?_) (fun q1 => ?_)
                  · have hs1 : m.senders ≠ [] := len_pos.1 q1
                    refine CaseB.mk (fun q2 => ?_) (fun q2 => ?_)
                    · exact retw [] ⟨rfl, rfl⟩ trivial rfl trivial (fun _ => Chan.invalid (fun hv => by have := (hv.se hs1).1; simp at q2; omega))
                    · have e2 : (m.items.length : Int) = m.room := by simp at q2; omega
                      refine CaseB.mk (fun q3 => ?_) (fun q3 => ?_)
                      · exact retw [] ⟨rfl, rfl⟩ trivial rfl trivial (fun _ => Chan.invalid (fun hv => len_pos.1 q3 (hv.se hs1).2.1))
                      · have e3 : m.getters = [] := by
                          cases hg : m.getters with
                          | nil => rfl
                          | cons a r => rw [hg] at q3; simp at q3
                        refine CaseB.mk (fun q4 => ?_) (fun q4 => ?_)
                        · exact retw [] ⟨rfl, rfl⟩ trivial rfl trivial (fun _ => Chan.invalid (fun hv => by have := (hv.se hs1).2.2; rw [q4] at this; cases this))
                        · have hS : m.senders ≠ [] → (m.items.length : Int) = m.room ∧ m.getters = [] ∧ m.closed = false := fun _ => ⟨e2, e3, q4⟩
                          refine CaseB.mk (fun q5 => ?_) (fun q5 => ?_)
                          · have hg : m.getters = [] := by simpa using q5
                            exact retw [] ⟨rfl, rfl⟩ trivial rfl trivial (fun _ => Chan.isvalid (fin hS (fun hn => absurd hg hn)))
                          · have hg : m.getters ≠ [] := by simpa using q5
                            refine CaseB.mk (fun q6 => ?_) (fun q6 => ?_)
                            · have hi : m.items = [] := by simpa using q6
                              refine retw [] ⟨rfl, rfl⟩ trivial rfl trivial (fun _ => ?_)
                              show Value.bool (!m.closed) = _
                              cases hc : m.closed with
                              | false => exact Chan.isvalid (fin hS (fun _ => ⟨hi, hc⟩))
                              | true => exact Chan.invalid (fun hv => by have := (hv.ge hg).2; rw [hc] at this; cases this)
                            · have hi : m.items ≠ [] := by simpa using q6
                              exact retw [] ⟨rfl, rfl⟩ trivial rfl trivial (fun _ => Chan.invalid (fun hv => hi (hv.ge hg).1))
                  · have hs1 : m.senders = [] := by
                      cases hg : m.senders with
                      | nil => rfl
                      | cons a r => rw [hg] at q1; simp at q1
                    have hS : m.senders ≠ [] → (m.items.length : Int) = m.room ∧ m.getters = [] ∧ m.closed = false := fun hn => absurd hs1 hn
                    refine CaseB.mk (fun q5 => ?_) (fun q5 => ?_)
                    · have hg : m.getters = [] := by simpa using q5
                      exact retw [] ⟨rfl, rfl⟩ trivial rfl trivial (fun _ => Chan.isvalid (fin hS (fun hn => absurd hg hn)))
                    · have hg : m.getters ≠ [] := by simpa using q5
                      refine CaseB.mk (fun q6 => ?_) (fun q6 => ?_)
                      · have hi : m.items = [] := by simpa using q6
                        refine retw [] ⟨rfl, rfl⟩ trivial rfl trivial (fun _ => ?_)
                        show Value.bool (!m.closed) = _
                        cases hc : m.closed with
                        | false => exact Chan.isvalid (fin hS (fun _ => ⟨hi, hc⟩))
                        | true => exact Chan.invalid (fun hv => by have := (hv.ge hg).2; rw [hc] at this; cases this)
                      · have hi : m.items ≠ [] := by simpa using q6
                        exact retw [] ⟨rfl, rfl⟩ trivial rfl trivial (fun _ => Chan.invalid (fun hv => hi (hv.ge hg).1))

end Go.Proofs.YtklclbcckjhdpaaGreat

namespace Go.Proofs.YtklclbcckjhdpaaGreat

open Go Go.Sx Go.RowKit

set_option maxHeartbeats 4000000 in
set_option maxRecDepth 100000 in
theorem onceValidS_c (m : Once) (q : Sl) (w : World) (h : At w [slo q cInt 1 m.waits]) (hb : m.waits.length ≤ 1048576) :
    Calls Tryz.prog 160 #[onceV m q] w (Tells w (OnceOk m)) := by
  refine calls1 Tryz.func160 rfl tabOk w _ rfl _ rfl _ h ⟨rfl, rfl, trivial⟩ _ (by decide) ?_
  refine CaseB.mk (fun k => ?_) (fun k0 => ?_)
  · have hx := onceOk0 (m := m) (by simpa using k)
    refine CaseB.mk (fun g => ?_) (fun g => ?_)
    rotate_left
    · have q : ¬ (m.owner = 0) := by simpa using g
      exact retw [] ⟨_, rfl, tno fun e => q (hx.1 e).1, rfl⟩ trivial rfl trivial (fun _ => rfl)
    have c1 : m.owner = 0 := by simpa using g
    refine CaseB.mk (fun g => ?_) (fun g => ?_)
    rotate_left
    · have q : ¬ (m.value = 0) := by simpa using g
      exact retw [] ⟨_, rfl, tno fun e => q (hx.1 e).2.1, rfl⟩ trivial rfl trivial (fun _ => rfl)
    have c2 : m.value = 0 := by simpa using g
    exact retw [] ⟨_, rfl, by rw [hx]; simp [c1, c2], rfl⟩ trivial rfl trivial (fun _ => rfl)
  refine CaseB.mk (fun k => ?_) (fun k1 => ?_)
  · have hx := onceOk1 (m := m) (by simpa using k)
    refine stop_call _ cl181 rfl rfl rfl rfl ⟨rfl, rfl⟩ (fun A w hW => l1Thread_c _ w) ?_
    rintro v L ⟨rfl, rfl⟩
    refine CaseB.mk (fun g => ?_) (fun g => ?_)
    rotate_left
    · have q : ¬ (isThread m.owner = true) := by simpa using g
      exact retw [] ⟨_, rfl, tno fun e => q (hx.1 e).1, rfl⟩ trivial rfl trivial (fun _ => rfl)
    have c1 : isThread m.owner = true := g
    refine CaseB.mk (fun g => ?_) (fun g => ?_)
    rotate_left
    · have q : ¬ (m.value = 0) := by simpa using g
      exact retw [] ⟨_, rfl, tno fun e => q (hx.1 e).2.1, rfl⟩ trivial rfl trivial (fun _ => rfl)
    have c2 : m.value = 0 := by simpa using g
    refine stop_call _ cl199 rfl rfl rfl rfl ⟨rfl, rfl⟩ (fun A w hW => l2Waits_c q m.waits w ⟨(by first | exact hW.rd 0 rfl | exact hW.rdOwn 0 rfl | exact hW.rd 1 rfl | exact hW.rdOwn 1 rfl | exact hW.rd 2 rfl | exact hW.rdOwn 2 rfl | exact hW.rd 3 rfl | exact hW.rdOwn 3 rfl | exact hW.rd 4 rfl | exact hW.rdOwn 4 rfl | exact hW.rd 5 rfl | exact hW.rdOwn 5 rfl | exact hW.rd 6 rfl | exact hW.rdOwn 6 rfl | exact hW.rd 7 rfl | exact hW.rdOwn 7 rfl | exact hW.rd 8 rfl | exact hW.rdOwn 8 rfl | exact hW.rd 9 rfl | exact hW.rdOwn 9 rfl | exact hW.rd 10 rfl | exact hW.rdOwn 10 rfl | exact hW.rd 11 rfl | exact hW.rdOwn 11 rfl | exact hW.rd 12 rfl | exact hW.rdOwn 12 rfl | exact hW.rd 13 rfl | exact hW.rdOwn 13 rfl | exact hW.rd 14 rfl | exact hW.rdOwn 14 rfl | exact hW.rd 15 rfl | exact hW.rdOwn 15 rfl | exact hW.rd 16 rfl | exact hW.rdOwn 16 rfl | exact hW.rd 17 rfl | exact hW.rdOwn 17 rfl | exact hW.rd 18 rfl | exact hW.rdOwn 18 rfl | exact hW.rd 19 rfl | exact hW.rdOwn 19 rfl | exact hW.rd 20 rfl | exact hW.rdOwn 20 rfl | exact hW.rd 21 rfl | exact hW.rdOwn 21 rfl | exact hW.rd 22 rfl | exact hW.rdOwn 22 rfl | exact hW.rd 23 rfl | exact hW.rdOwn 23 rfl), trivial⟩ (by omega)) ?_
    rintro v L ⟨rfl, rfl⟩
    refine CaseB.mk (fun g => ?_) (fun g => ?_)
    rotate_left
    · have q : ¬ (distinct m.waits = true) := by simpa using g
      exact retw [] ⟨_, rfl, tno fun e => q (hx.1 e).2.2.1, rfl⟩ trivial rfl trivial (fun _ => rfl)
    have c3 : distinct m.waits = true := g
    refine stop_call _ cl51 rfl rfl rfl rfl ⟨rfl, rfl⟩ (fun A w hW => l2At_c q m.waits m.owner w ⟨(by first | exact hW.rd 0 rfl | exact hW.rdOwn 0 rfl | exact hW.rd 1 rfl | exact hW.rdOwn 1 rfl | exact hW.rd 2 rfl | exact hW.rdOwn 2 rfl | exact hW.rd 3 rfl | exact hW.rdOwn 3 rfl | exact hW.rd 4 rfl | exact hW.rdOwn 4 rfl | exact hW.rd 5 rfl | exact hW.rdOwn 5 rfl | exact hW.rd 6 rfl | exact hW.rdOwn 6 rfl | exact hW.rd 7 rfl | exact hW.rdOwn 7 rfl | exact hW.rd 8 rfl | exact hW.rdOwn 8 rfl | exact hW.rd 9 rfl | exact hW.rdOwn 9 rfl | exact hW.rd 10 rfl | exact hW.rdOwn 10 rfl | exact hW.rd 11 rfl | exact hW.rdOwn 11 rfl | exact hW.rd 12 rfl | exact hW.rdOwn 12 rfl | exact hW.rd 13 rfl | exact hW.rdOwn 13 rfl | exact hW.rd 14 rfl | exact hW.rdOwn 14 rfl | exact hW.rd 15 rfl | exact hW.rdOwn 15 rfl | exact hW.rd 16 rfl | exact hW.rdOwn 16 rfl | exact hW.rd 17 rfl | exact hW.rdOwn 17 rfl | exact hW.rd 18 rfl | exact hW.rdOwn 18 rfl | exact hW.rd 19 rfl | exact hW.rdOwn 19 rfl | exact hW.rd 20 rfl | exact hW.rdOwn 20 rfl | exact hW.rd 21 rfl | exact hW.rdOwn 21 rfl | exact hW.rd 22 rfl | exact hW.rdOwn 22 rfl | exact hW.rd 23 rfl | exact hW.rdOwn 23 rfl), trivial⟩ (by omega)) ?_
    rintro v L ⟨rfl, rfl⟩
    have hm := atM_mem m.waits m.owner
    exact retw [] ⟨_, rfl, by rw [hx, ← hm]; simp [c1, c2, c3], rfl⟩ trivial rfl trivial (fun _ => rfl)
  refine CaseB.mk (fun k => ?_) (fun k2 => ?_)
  · have hx := onceOk2 (m := m) (by simpa using k)
    refine stop_call _ cl181 rfl rfl rfl rfl ⟨rfl, rfl⟩ (fun A w hW => l1Thread_c _ w) ?_
    rintro v L ⟨rfl, rfl⟩
    refine CaseB.mk (fun g => ?_) (fun g => ?_)
    rotate_left
    · have q : ¬ (isThread m.owner = true) := by simpa using g
      exact retw [] ⟨_, rfl, tno fun e => q (hx.1 e).1, rfl⟩ trivial rfl trivial (fun _ => rfl)
    have c1 : isThread m.owner = true := g
    refine stop_call _ cl96 rfl rfl rfl rfl ⟨rfl, rfl⟩ (fun A w hW => l2Value_c _ w) ?_
    rintro v L ⟨rfl, rfl⟩
    refine CaseB.mk (fun g => ?_) (fun g => ?_)
    rotate_left
    · have q : ¬ (isValue m.value = true) := by simpa using g
      exact retw [] ⟨_, rfl, tno fun e => q (hx.1 e).2.1, rfl⟩ trivial rfl trivial (fun _ => rfl)
    have c2 : isValue m.value = true := g
    exact retw [] ⟨_, rfl, by rw [hx]; simp [c1, c2], rfl⟩ trivial rfl trivial (fun _ => rfl)
  exact retw [] ⟨_, rfl, tno (onceOkN (by simpa using k0) (by simpa using k1) (by simpa using k2)), rfl⟩ trivial rfl trivial (fun _ => rfl)

set_option maxRecDepth 100000 in
theorem groupValidS_c (m : Group) (q : Sl) (w : World) (h : At w [slo q cInt 1 m.waits]) (hb : m.waits.length ≤ 1048576) :
    Calls Tryz.prog 161 #[groupV m q] w (Tells w (GroupOk m)) := by
  refine calls1 Tryz.func161 rfl tabOk w _ rfl _ rfl _ h ⟨rfl, rfl, trivial⟩ _ (by decide) ?_
  refine stop_call _ cl96 rfl rfl rfl rfl ⟨rfl, rfl⟩ (fun A w hW => l2Value_c _ w) ?_
  rintro v L ⟨rfl, rfl⟩
  refine CaseB.mk (fun g => ?_) (fun g => ?_)
  rotate_left
  · have q : ¬ (isValue m.count = true) := by simpa using g
    exact retw [] ⟨_, rfl, tno fun e => q e.1, rfl⟩ trivial rfl trivial (fun _ => rfl)
  have c1 : isValue m.count = true := g
  refine stop_call _ cl199 rfl rfl rfl rfl ⟨rfl, rfl⟩ (fun A w hW => l2Waits_c q m.waits w ⟨(by first | exact hW.rd 0 rfl | exact hW.rdOwn 0 rfl | exact hW.rd 1 rfl | exact hW.rdOwn 1 rfl | exact hW.rd 2 rfl | exact hW.rdOwn 2 rfl | exact hW.rd 3 rfl | exact hW.rdOwn 3 rfl | exact hW.rd 4 rfl | exact hW.rdOwn 4 rfl | exact hW.rd 5 rfl | exact hW.rdOwn 5 rfl | exact hW.rd 6 rfl | exact hW.rdOwn 6 rfl | exact hW.rd 7 rfl | exact hW.rdOwn 7 rfl | exact hW.rd 8 rfl | exact hW.rdOwn 8 rfl | exact hW.rd 9 rfl | exact hW.rdOwn 9 rfl | exact hW.rd 10 rfl | exact hW.rdOwn 10 rfl | exact hW.rd 11 rfl | exact hW.rdOwn 11 rfl | exact hW.rd 12 rfl | exact hW.rdOwn 12 rfl | exact hW.rd 13 rfl | exact hW.rdOwn 13 rfl | exact hW.rd 14 rfl | exact hW.rdOwn 14 rfl | exact hW.rd 15 rfl | exact hW.rdOwn 15 rfl | exact hW.rd 16 rfl | exact hW.rdOwn 16 rfl | exact hW.rd 17 rfl | exact hW.rdOwn 17 rfl | exact hW.rd 18 rfl | exact hW.rdOwn 18 rfl | exact hW.rd 19 rfl | exact hW.rdOwn 19 rfl | exact hW.rd 20 rfl | exact hW.rdOwn 20 rfl | exact hW.rd 21 rfl | exact hW.rdOwn 21 rfl | exact hW.rd 22 rfl | exact hW.rdOwn 22 rfl | exact hW.rd 23 rfl | exact hW.rdOwn 23 rfl), trivial⟩ (by omega)) ?_
  rintro v L ⟨rfl, rfl⟩
  refine CaseB.mk (fun g => ?_) (fun g => ?_)
  rotate_left
  · have q : ¬ (distinct m.waits = true) := by simpa using g
    exact retw [] ⟨_, rfl, tno fun e => q e.2.1, rfl⟩ trivial rfl trivial (fun _ => rfl)
  have c2 : distinct m.waits = true := g
  refine CaseB.mk (fun g => ?_) (fun g => ?_)
  · have c3 : 0 < m.count := by have g' := of_decide_eq_true g; omega
    exact retw [] ⟨_, rfl, tyes ⟨c1, c2, .inl c3⟩, rfl⟩ trivial rfl trivial (fun _ => rfl)
  · have c3 : ¬ 0 < m.count := by have g' := of_decide_eq_false g; omega
    exact retw [] ⟨_, rfl, by simp [GroupOk, c1, c2, c3], rfl⟩ trivial rfl trivial (fun _ => rfl)

set_option maxRecDepth 100000 in
theorem barrierValidS_c (m : Barrier) (q : Sl) (w : World) (h : At w [slo q cInt 1 m.waits]) (hb : m.waits.length ≤ 1048576) :
    Calls Tryz.prog 162 #[barrierV m q] w (Tells w (BarrierOk m)) := by
  refine calls1 Tryz.func162 rfl tabOk w _ rfl _ rfl _ h ⟨rfl, rfl, trivial⟩ _ (by decide) ?_
  refine CaseB.mk (fun g => ?_) (fun g => ?_)
  rotate_left
  · have q : ¬ (1 ≤ m.parties) := by have g' := of_decide_eq_false g; omega
    exact retw [] ⟨_, rfl, tno fun e => q e.1, rfl⟩ trivial rfl trivial (fun _ => rfl)
  have c1 : 1 ≤ m.parties := by have g' := of_decide_eq_true g; omega
  refine CaseB.mk (fun g => ?_) (fun g => ?_)
  rotate_left
  · have q : ¬ (m.parties ≤ 6) := by have g' := of_decide_eq_false g; omega
    exact retw [] ⟨_, rfl, tno fun e => q e.2.1, rfl⟩ trivial rfl trivial (fun _ => rfl)
  have c2 : m.parties ≤ 6 := by have g' := of_decide_eq_true g; omega
  refine CaseB.mk (fun g => ?_) (fun g => ?_)
  rotate_left
  · have q : ¬ (0 ≤ m.round) := by have g' := of_decide_eq_false g; omega
    exact retw [] ⟨_, rfl, tno fun e => q e.2.2.1, rfl⟩ trivial rfl trivial (fun _ => rfl)
  have c3 : 0 ≤ m.round := by have g' := of_decide_eq_true g; omega
  refine CaseB.mk (fun g => ?_) (fun g => ?_)
  rotate_left
  · have q : ¬ (m.round ≤ 9999) := by have g' := of_decide_eq_false g; omega
    exact retw [] ⟨_, rfl, tno fun e => q e.2.2.2.1, rfl⟩ trivial rfl trivial (fun _ => rfl)
  have c4 : m.round ≤ 9999 := by have g' := of_decide_eq_true g; omega
  refine stop_call _ cl199 rfl rfl rfl rfl ⟨rfl, rfl⟩ (fun A w hW => l2Waits_c q m.waits w ⟨(by first | exact hW.rd 0 rfl | exact hW.rdOwn 0 rfl | exact hW.rd 1 rfl | exact hW.rdOwn 1 rfl | exact hW.rd 2 rfl | exact hW.rdOwn 2 rfl | exact hW.rd 3 rfl | exact hW.rdOwn 3 rfl | exact hW.rd 4 rfl | exact hW.rdOwn 4 rfl | exact hW.rd 5 rfl | exact hW.rdOwn 5 rfl | exact hW.rd 6 rfl | exact hW.rdOwn 6 rfl | exact hW.rd 7 rfl | exact hW.rdOwn 7 rfl | exact hW.rd 8 rfl | exact hW.rdOwn 8 rfl | exact hW.rd 9 rfl | exact hW.rdOwn 9 rfl | exact hW.rd 10 rfl | exact hW.rdOwn 10 rfl | exact hW.rd 11 rfl | exact hW.rdOwn 11 rfl | exact hW.rd 12 rfl | exact hW.rdOwn 12 rfl | exact hW.rd 13 rfl | exact hW.rdOwn 13 rfl | exact hW.rd 14 rfl | exact hW.rdOwn 14 rfl | exact hW.rd 15 rfl | exact hW.rdOwn 15 rfl | exact hW.rd 16 rfl | exact hW.rdOwn 16 rfl | exact hW.rd 17 rfl | exact hW.rdOwn 17 rfl | exact hW.rd 18 rfl | exact hW.rdOwn 18 rfl | exact hW.rd 19 rfl | exact hW.rdOwn 19 rfl | exact hW.rd 20 rfl | exact hW.rdOwn 20 rfl | exact hW.rd 21 rfl | exact hW.rdOwn 21 rfl | exact hW.rd 22 rfl | exact hW.rdOwn 22 rfl | exact hW.rd 23 rfl | exact hW.rdOwn 23 rfl), trivial⟩ (by omega)) ?_
  rintro v L ⟨rfl, rfl⟩
  refine CaseB.mk (fun g => ?_) (fun g => ?_)
  rotate_left
  · have q : ¬ (distinct m.waits = true) := by simpa using g
    exact retw [] ⟨_, rfl, tno fun e => q e.2.2.2.2.2, rfl⟩ trivial rfl trivial (fun _ => rfl)
  have c6 : distinct m.waits = true := g
  exact retw [] ⟨_, rfl, by simp [BarrierOk, c1, c2, c3, c4, c6], rfl⟩ trivial rfl trivial (fun _ => rfl)

set_option maxHeartbeats 4000000 in
set_option maxRecDepth 100000 in
theorem semValidS_c (m : Sem) (q : Sl) (w : World) (h : At w [slo q cWaiter 2 m.queue]) (hb : m.queue.length ≤ 1048576) :
    Calls Tryz.prog 159 #[semV m q] w (Tells w (SemOk m)) := by
  refine calls1 Tryz.func159 rfl tabOk w _ rfl _ rfl _ h ⟨rfl, rfl, trivial⟩ _ (by decide) ?_
  refine CaseB.mk (fun g => ?_) (fun g => ?_)
  · have q : ¬ (1 ≤ m.limit) := by have g' := of_decide_eq_true g; omega
    exact retw [] ⟨_, rfl, tno fun e => q e.l1, rfl⟩ trivial rfl trivial (fun _ => rfl)
  have c1 : 1 ≤ m.limit := by have g' := of_decide_eq_false g; omega
  refine CaseB.mk (fun g => ?_) (fun g => ?_)
  · have q : ¬ (m.limit ≤ 9) := by have g' := of_decide_eq_true g; omega
    exact retw [] ⟨_, rfl, tno fun e => q e.l9, rfl⟩ trivial rfl trivial (fun _ => rfl)
  have c2 : m.limit ≤ 9 := by have g' := of_decide_eq_false g; omega
  refine CaseB.mk (fun g => ?_) (fun g => ?_)
  · have q : ¬ (0 ≤ m.free) := by have g' := of_decide_eq_true g; omega
    exact retw [] ⟨_, rfl, tno fun e => q e.f0, rfl⟩ trivial rfl trivial (fun _ => rfl)
  have c3 : 0 ≤ m.free := by have g' := of_decide_eq_false g; omega
  refine CaseB.mk (fun g => ?_) (fun g => ?_)
  · have q : ¬ (m.free ≤ m.limit) := by have g' := of_decide_eq_true g; omega
    exact retw [] ⟨_, rfl, tno fun e => q e.fl, rfl⟩ trivial rfl trivial (fun _ => rfl)
  have c4 : m.free ≤ m.limit := by have g' := of_decide_eq_false g; omega
  refine CaseB.mk (fun g => ?_) (fun g => ?_)
  · have q : ¬ (m.queue.length ≤ 6) := by have g' := of_decide_eq_true g; omega
    exact retw [] ⟨_, rfl, tno fun e => q e.q6, rfl⟩ trivial rfl trivial (fun _ => rfl)
  have c5 : m.queue.length ≤ 6 := by have g' := of_decide_eq_false g; omega
  refine LoopW.mk ⟨{ k : Nat // k ≤ m.queue.length ∧ (∀ w ∈ m.queue.take k, 1 ≤ w.n ∧ w.n ≤ m.limit) ∧ distinct ((m.queue.map (·.t)).take k) = true },
    fun p => .mk [(1, .p 0 0), (3, .v (.int .i64 (p.1 : Int)))] 1 0 [(0, 95, 3)] [((0, 0), .v (.int .i64 m.free)), ((0, 1), .v (.int .i64 m.limit)), ((0, 2), .v (q.val m.queue.length))] [slo q cWaiter 2 m.queue],
    fun p => m.queue.length - p.1, ⟨0, Nat.zero_le _, by simp, by simp [distinct]⟩, ?_, ?_⟩
  · refine weak_mk [0] ?_ ?_ ?_ ?_ ?_ rfl rfl
    · repeat (first | exact trivial | refine ⟨⟨_, rfl, (by first | exact .of rfl | exact .lit rfl | exact .of (by first | (rfl)) | exact .lit (by first | (rfl))), (by first | exact trivial | exact Nat.le_of_ble_eq_true rfl)⟩, ?_⟩)
    · repeat (first | exact trivial | refine ⟨⟨(by first | exact .head _ | exact .tail _ (.head _) | exact .tail _ (.tail _ (.head _)) | exact .tail _ (.tail _ (.tail _ (.head _))) | exact .tail _ (.tail _ (.tail _ (.tail _ (.head _)))) | exact .tail _ (.tail _ (.tail _ (.tail _ (.tail _ (.head _))))) | exact .tail _ (.tail _ (.tail _ (.tail _ (.tail _ (.tail _ (.head _)))))) | exact .tail _ (.tail _ (.tail _ (.tail _ (.tail _ (.tail _ (.tail _ (.head _))))))) | exact .tail _ (.tail _ (.tail _ (.tail _ (.tail _ (.tail _ (.tail _ (.tail _ (.head _)))))))) | exact .tail _ (.tail _ (.tail _ (.tail _ (.tail _ (.tail _ (.tail _ (.tail _ (.tail _ (.head _)))))))))), Nat.le_of_ble_eq_true rfl⟩, ?_⟩)
    · repeat (first | exact trivial | refine ⟨⟨_, rfl, (by first | exact .of rfl | exact .lit rfl | exact .of (by first | (rfl)) | exact .lit (by first | (rfl))), (by first | exact trivial | exact Nat.le_of_ble_eq_true rfl)⟩, ?_⟩)
    · repeat (first | exact trivial | refine ⟨⟨_, rfl⟩, ?_⟩)
    · repeat (first | exact trivial | refine ⟨.inl ⟨_, rfl, (by first | rfl | (rfl))⟩, ?_⟩ | refine ⟨.inr ⟨Nat.le_of_ble_eq_true rfl, rfl, rfl, rfl, rfl⟩, ?_⟩)
  rintro ⟨k, hk, hinv, hdi⟩
  refine CaseB.mk (fun g => ?_) (fun g => ?_)
  · have hlt : k < m.queue.length := by simpa using g
    have hltm : k < (m.queue.map (·.t)).length := by simpa using hlt
    have hw := wrapN k _ hlt (by omega)
    have hsub : distinct (m.queue.map (·.t)) = true → isThread (m.queue[k]).t = true ∧ (m.queue[k]).t ∉ (m.queue.map (·.t)).take k := fun e => by
      simp only [distinct, decide_eq_true_eq] at e
      refine ⟨e.2 _ (List.mem_map_of_mem (List.getElem_mem hlt)), fun hm => ?_⟩
      have hn := e.1
      rw [← List.take_append_drop k (m.queue.map (·.t)), List.nodup_append] at hn
      refine hn.2.2 _ hm _ ?_ rfl
      rw [List.drop_eq_getElem_cons hltm]
      simp
    refine stop_idx encWaiter tabOk rfl rfl rfl rfl rfl ⟨rfl, rfl⟩ (rdAt 0 rfl) k rfl (by first | omega | (simp; done) | (simp; omega) | (unfold maxLen; omega) | (unfold maxLen; simp; done) | (unfold maxLen; simp; omega)) (fun ad => ?_)
    refine stop_call _ cl181 rfl rfl rfl rfl ⟨rfl, rfl⟩ (fun A w hW => l1Thread_c _ w) ?_
    rintro v L ⟨rfl, rfl⟩
    refine CaseB.mk (fun g => ?_) (fun g => ?_)
    · exact retw [] ⟨_, rfl, tno fun e => (by rw [(hsub e.dis).1] at g; cases g), rfl⟩ trivial rfl trivial (fun _ => rfl)
    have d0 : isThread (m.queue[k]).t = true := by simpa using g
    refine CaseB.mk (fun g => ?_) (fun g => ?_)
    · have q : ¬ (1 ≤ (m.queue[k]).n) := by have g' := of_decide_eq_true g; omega
      exact retw [] ⟨_, rfl, tno fun e => q (e.cnt _ (List.getElem_mem hlt)).1, rfl⟩ trivial rfl trivial (fun _ => rfl)
    have d1 : 1 ≤ (m.queue[k]).n := by have g' := of_decide_eq_false g; omega
    refine CaseB.mk (fun g => ?_) (fun g => ?_)
    · have q : ¬ ((m.queue[k]).n ≤ m.limit) := by have g' := of_decide_eq_true g; omega
      exact retw [] ⟨_, rfl, tno fun e => q (e.cnt _ (List.getElem_mem hlt)).2, rfl⟩ trivial rfl trivial (fun _ => rfl)
    have d2 : (m.queue[k]).n ≤ m.limit := by have g' := of_decide_eq_false g; omega
    refine LoopW.mk ⟨{ j : Nat // j ≤ k ∧ (m.queue[k]).t ∉ (m.queue.map (·.t)).take j },
      fun j => .mk [(1, .p 0 0), (3, .v (.int .i64 (k : Int))), (4, .p 1 0), (5, .v (.int .i64 (j.1 : Int)))] 2 0 [(0, 95, 3), (1, 193, 2)] [((0, 0), .v (.int .i64 m.free)), ((0, 1), .v (.int .i64 m.limit)), ((0, 2), .v (q.val m.queue.length)), ((1, 0), .v (.int .i64 (m.queue[k]).t))] [slo q cWaiter 2 m.queue],
      fun j => k - j.1, ⟨0, Nat.zero_le _, by simp⟩, ?_, ?_⟩
    · refine weak_mk [0] ?_ ?_ ?_ ?_ ?_ rfl rfl
      · repeat (first | exact trivial | refine ⟨⟨_, rfl, (by first | exact .of rfl | exact .lit rfl | exact .of (by first | (rfl)) | exact .lit (by first | (rfl))), (by first | exact trivial | exact Nat.le_of_ble_eq_true rfl)⟩, ?_⟩)
      · repeat (first | exact trivial | refine ⟨⟨(by first | exact .head _ | exact .tail _ (.head _) | exact .tail _ (.tail _ (.head _)) | exact .tail _ (.tail _ (.tail _ (.head _))) | exact .tail _ (.tail _ (.tail _ (.tail _ (.head _)))) | exact .tail _ (.tail _ (.tail _ (.tail _ (.tail _ (.head _))))) | exact .tail _ (.tail _ (.tail _ (.tail _ (.tail _ (.tail _ (.head _)))))) | exact .tail _ (.tail _ (.tail _ (.tail _ (.tail _ (.tail _ (.tail _ (.head _))))))) | exact .tail _ (.tail _ (.tail _ (.tail _ (.tail _ (.tail _ (.tail _ (.tail _ (.head _)))))))) | exact .tail _ (.tail _ (.tail _ (.tail _ (.tail _ (.tail _ (.tail _ (.tail _ (.tail _ (.head _)))))))))), Nat.le_of_ble_eq_true rfl⟩, ?_⟩)
      · repeat (first | exact trivial | refine ⟨⟨_, rfl, (by first | exact .of rfl | exact .lit rfl | exact .of (by first | (rfl)) | exact .lit (by first | (rfl))), (by first | exact trivial | exact Nat.le_of_ble_eq_true rfl)⟩, ?_⟩)
      · repeat (first | exact trivial | refine ⟨⟨_, rfl⟩, ?_⟩)
      · repeat (first | exact trivial | refine ⟨.inl ⟨_, rfl, (by first | rfl | (rfl))⟩, ?_⟩ | refine ⟨.inr ⟨Nat.le_of_ble_eq_true rfl, rfl, rfl, rfl, rfl⟩, ?_⟩)
    rintro ⟨j, hj, hnm⟩
    refine CaseB.mk (fun g => ?_) (fun g => ?_)
    · have hlj : j < k := by simpa using g
      have hlj2 : j < m.queue.length := by omega
      have hwj := wrapN j k hlj (by omega)
      refine draw_start tabOk (by kernel_rfl) (by kernel_rfl) (by kernel_rfl) 200 [((0, 0), .v (.int .i64 m.free)), ((0, 1), .v (.int .i64 m.limit)), ((0, 2), .v (q.val m.queue.length)), ((1, 0), .v (.int .i64 (m.queue[k]).t))] [0] [_] ⟨⟨_, rfl, rfl, (by first | exact trivial | exact Nat.le_of_ble_eq_true rfl)⟩, ⟨_, rfl, rfl, (by first | exact trivial | exact Nat.le_of_ble_eq_true rfl)⟩, ⟨_, rfl, rfl, (by first | exact trivial | exact Nat.le_of_ble_eq_true rfl)⟩, ⟨_, rfl, rfl, (by first | exact trivial | exact Nat.le_of_ble_eq_true rfl)⟩, trivial⟩ ⟨⟨_, rfl⟩, ⟨_, rfl⟩, ⟨_, rfl⟩, ⟨_, rfl⟩, trivial⟩ ⟨rfl, trivial⟩ rfl ?_
      refine d_idx (ti := tiOf tab) encWaiter tabOk rfl rfl rfl rfl rfl ⟨rfl, rfl⟩ (rdAt 0 rfl) j rfl (by first | omega | (simp; done) | (simp; omega) | (unfold maxLen; omega) | (unfold maxLen; simp; done) | (unfold maxLen; simp; omega)) (fun ad2 => ?_)
      refine CaseB.mk (fun g => ?_) (fun g => ?_)
      · have q : (m.queue[j]).t = (m.queue[k]).t := by simpa using g
        refine retw [] ⟨_, rfl, tno fun e => (hsub e.dis).2 ?_, rfl⟩ trivial rfl trivial (fun _ => rfl)
        rw [← q, List.mem_take_iff_getElem]
        exact ⟨j, by simp; omega, by simp⟩
      · have q : ¬ (m.queue[j]).t = (m.queue[k]).t := by simpa using g
        refine ⟨⟨j + 1, by omega, ?_⟩, ?_, by simp only; omega⟩
        · rw [List.take_succ_eq_append_getElem (by simpa using hlj2)]
          simp only [List.mem_append, List.mem_singleton, List.getElem_map, not_or]
          exact ⟨hnm, fun e => q e.symm⟩
        · refine weak_mk [0] ?_ ?_ ?_ ?_ ?_ rfl rfl
          · repeat (first | exact trivial | refine ⟨⟨_, rfl, (by first | exact .of rfl | exact .lit rfl | exact .of (by first | ((exact congrArg (fun z => SV.v (Value.int .i64 z)) hwj))) | exact .lit (by first | ((exact congrArg (fun z => SV.v (Value.int .i64 z)) hwj)))), (by first | exact trivial | exact Nat.le_of_ble_eq_true rfl)⟩, ?_⟩)
          · repeat (first | exact trivial | refine ⟨⟨(by first | exact .head _ | exact .tail _ (.head _) | exact .tail _ (.tail _ (.head _)) | exact .tail _ (.tail _ (.tail _ (.head _))) | exact .tail _ (.tail _ (.tail _ (.tail _ (.head _)))) | exact .tail _ (.tail _ (.tail _ (.tail _ (.tail _ (.head _))))) | exact .tail _ (.tail _ (.tail _ (.tail _ (.tail _ (.tail _ (.head _)))))) | exact .tail _ (.tail _ (.tail _ (.tail _ (.tail _ (.tail _ (.tail _ (.head _))))))) | exact .tail _ (.tail _ (.tail _ (.tail _ (.tail _ (.tail _ (.tail _ (.tail _ (.head _)))))))) | exact .tail _ (.tail _ (.tail _ (.tail _ (.tail _ (.tail _ (.tail _ (.tail _ (.tail _ (.head _)))))))))), Nat.le_of_ble_eq_true rfl⟩, ?_⟩)
          · repeat (first | exact trivial | refine ⟨⟨_, rfl, (by first | exact .of rfl | exact .lit rfl | exact .of (by first | ((exact congrArg (fun z => SV.v (Value.int .i64 z)) hwj))) | exact .lit (by first | ((exact congrArg (fun z => SV.v (Value.int .i64 z)) hwj)))), (by first | exact trivial | exact Nat.le_of_ble_eq_true rfl)⟩, ?_⟩)
          · repeat (first | exact trivial | refine ⟨⟨_, rfl⟩, ?_⟩)
          · repeat (first | exact trivial | refine ⟨.inl ⟨_, rfl, (by first | rfl | ((exact congrArg (fun z => SV.v (Value.int .i64 z)) hwj)))⟩, ?_⟩ | refine ⟨.inr ⟨Nat.le_of_ble_eq_true rfl, rfl, rfl, rfl, rfl⟩, ?_⟩)
    have hjk : j = k := by have : ¬ (j : Int) < k := by simpa using g
                           omega
    subst hjk
    refine ⟨⟨j + 1, by omega, fun x hx => ?_, ?_⟩, ?_, by simp only; omega⟩
    · rw [List.take_succ_eq_append_getElem hlt] at hx
      rcases List.mem_append.1 hx with hx | hx
      · exact hinv x hx
      · simp at hx; subst hx; exact ⟨d1, d2⟩
    · rw [List.take_succ_eq_append_getElem hltm]
      simp only [distinct, decide_eq_true_eq] at hdi ⊢
      refine ⟨?_, fun x hx => ?_⟩
      · rw [List.nodup_append]
        refine ⟨hdi.1, by simp, fun a ha b hb => ?_⟩
        simp at hb; subst hb
        rintro rfl
        exact hnm ha
      · rcases List.mem_append.1 hx with hx | hx
        · exact hdi.2 x hx
        · simp at hx; subst hx; exact d0
    · refine weak_mk [0] ?_ ?_ ?_ ?_ ?_ rfl rfl
      · repeat (first | exact trivial | refine ⟨⟨_, rfl, (by first | exact .of rfl | exact .lit rfl | exact .of (by first | ((exact congrArg (fun z => SV.v (Value.int .i64 z)) hw))) | exact .lit (by first | ((exact congrArg (fun z => SV.v (Value.int .i64 z)) hw)))), (by first | exact trivial | exact Nat.le_of_ble_eq_true rfl)⟩, ?_⟩)
      · repeat (first | exact trivial | refine ⟨⟨(by first | exact .head _ | exact .tail _ (.head _) | exact .tail _ (.tail _ (.head _)) | exact .tail _ (.tail _ (.tail _ (.head _))) | exact .tail _ (.tail _ (.tail _ (.tail _ (.head _)))) | exact .tail _ (.tail _ (.tail _ (.tail _ (.tail _ (.head _))))) | exact .tail _ (.tail _ (.tail _ (.tail _ (.tail _ (.tail _ (.head _)))))) | exact .tail _ (.tail _ (.tail _ (.tail _ (.tail _ (.tail _ (.tail _ (.head _))))))) | exact .tail _ (.tail _ (.tail _ (.tail _ (.tail _ (.tail _ (.tail _ (.tail _ (.head _)))))))) | exact .tail _ (.tail _ (.tail _ (.tail _ (.tail _ (.tail _ (.tail _ (.tail _ (.tail _ (.head _)))))))))), Nat.le_of_ble_eq_true rfl⟩, ?_⟩)
      · repeat (first | exact trivial | refine ⟨⟨_, rfl, (by first | exact .of rfl | exact .lit rfl | exact .of (by first | ((exact congrArg (fun z => SV.v (Value.int .i64 z)) hw))) | exact .lit (by first | ((exact congrArg (fun z => SV.v (Value.int .i64 z)) hw)))), (by first | exact trivial | exact Nat.le_of_ble_eq_true rfl)⟩, ?_⟩)
      · repeat (first | exact trivial | refine ⟨⟨_, rfl⟩, ?_⟩)
      · repeat (first | exact trivial | refine ⟨.inl ⟨_, rfl, (by first | rfl | ((exact congrArg (fun z => SV.v (Value.int .i64 z)) hw)))⟩, ?_⟩ | refine ⟨.inr ⟨Nat.le_of_ble_eq_true rfl, rfl, rfl, rfl, rfl⟩, ?_⟩)
  have hge : m.queue.length ≤ k := by simpa using g
  rw [List.take_of_length_le hge] at hinv
  rw [List.take_of_length_le (by simpa using hge)] at hdi
  refine draw_start tabOk (by kernel_rfl) (by kernel_rfl) (by kernel_rfl) 200 [((0, 0), .v (.int .i64 m.free)), ((0, 1), .v (.int .i64 m.limit)), ((0, 2), .v (q.val m.queue.length))] [0] [_] ⟨⟨_, rfl, rfl, (by first | exact trivial | exact Nat.le_of_ble_eq_true rfl)⟩, ⟨_, rfl, rfl, (by first | exact trivial | exact Nat.le_of_ble_eq_true rfl)⟩, ⟨_, rfl, rfl, (by first | exact trivial | exact Nat.le_of_ble_eq_true rfl)⟩, trivial⟩ ⟨⟨_, rfl⟩, ⟨_, rfl⟩, ⟨_, rfl⟩, trivial⟩ ⟨rfl, trivial⟩ rfl ?_
  refine CaseB.mk (fun g => ?_) (fun g => ?_)
  · have c7 : m.queue = [] := by simpa using g
    exact retw [] ⟨_, rfl, tyes ⟨c1, c2, c3, c4, c5, hinv, hdi, by rw [c7]; simp⟩, rfl⟩ trivial rfl trivial (fun _ => rfl)
  have c7 : 0 < m.queue.length := by have g' : ¬ m.queue = [] := by simpa using g
                                     exact List.length_pos_iff.2 g'
  refine d_idx (ti := tiOf tab) encWaiter tabOk rfl rfl rfl rfl rfl ⟨rfl, rfl⟩ (rdAt 0 rfl) 0 rfl (by first | omega | (simp; done) | (simp; omega) | (unfold maxLen; omega) | (unfold maxLen; simp; done) | (unfold maxLen; simp; omega)) (fun ad => ?_)
  refine retw [] ⟨_, rfl, ?_, rfl⟩ trivial rfl trivial (fun _ => rfl)
  have hh : ∀ w, m.queue[0]? = some w → w = m.queue[0] := fun w hw => by rw [List.getElem?_eq_getElem c7] at hw; injection hw with hw; exact hw.symm
  constructor
  · intro g
    have g' := of_decide_eq_true g
    exact ⟨c1, c2, c3, c4, c5, hinv, hdi, fun w hw => by rw [hh w hw]; omega⟩
  · intro e
    have := e.hd _ (List.getElem?_eq_getElem c7)
    exact decide_eq_true (by omega)

end Go.Proofs.YtklclbcckjhdpaaGreat

namespace Go.Proofs.YtklclbcckjhdpaaGreat

open Go Go.Sx Go.RowKit

def l6Words : List ByteArray := [⟨#[]⟩, ⟨#[115, 97, 121]⟩, ⟨#[97, 99, 113, 117, 105, 114, 101]⟩, ⟨#[114, 101, 108, 101, 97, 115, 101]⟩, ⟨#[111, 110, 99, 101]⟩, ⟨#[97, 100, 100]⟩, ⟨#[119, 97, 105, 116]⟩, ⟨#[97, 114, 114, 105, 118, 101]⟩, ⟨#[115, 101, 110, 100]⟩, ⟨#[103, 101, 116]⟩, ⟨#[99, 108, 111, 115, 101]⟩]

def cStr (b : ByteArray) : List Value := [.string b]

theorem encStr : Enc cStr 1 := ⟨fun _ => rfl, fun _ u hu => by simp [cStr] at hu; subst hu; rfl⟩

def wordOf (k : Int) : ByteArray := if 1 ≤ k ∧ k ≤ 10 then l6Words.getD k.toNat ⟨#[]⟩ else ⟨#[]⟩

theorem wordOf_empty (k : Int) : ((wordOf k).toList == (⟨#[]⟩ : ByteArray).toList) = true ↔ ¬ (1 ≤ k ∧ k ≤ 10) := by
  unfold wordOf
  by_cases h : 1 ≤ k ∧ k ≤ 10
  · rw [if_pos h]
    have : k = 1 ∨ k = 2 ∨ k = 3 ∨ k = 4 ∨ k = 5 ∨ k = 6 ∨ k = 7 ∨ k = 8 ∨ k = 9 ∨ k = 10 := by omega
    simp only [h, and_self, not_true_eq_false, iff_false]
    rw [← beq_toListBytes]
    rcases this with rfl | rfl | rfl | rfl | rfl | rfl | rfl | rfl | rfl | rfl <;> decide
  · rw [if_neg h]
    simp [h]

set_option maxHeartbeats 4000000 in
set_option maxRecDepth 100000 in
theorem l6Word_c (k : Int) (w : World) : Calls Tryz.prog 196 #[.int .i64 k] w (Ret w fun v L => v = .string (wordOf k) ∧ L = []) := by
  refine calls1 Tryz.func196 rfl tabOk w _ rfl _ rfl [] trivial trivial _ (by decide) ?_
  refine AllSl.mk fun y => ?_
  refine CaseB.mk (fun g => ?_) (fun g => ?_)
  · have q : ¬ (1 ≤ k ∧ k ≤ 10) := by simp at g; omega
    exact retw [] ⟨by rw [wordOf, if_neg q], rfl⟩ trivial rfl trivial (fun _ => rfl)
  refine CaseB.mk (fun g2 => ?_) (fun g2 => ?_)
  · have q : ¬ (1 ≤ k ∧ k ≤ 10) := by simp at g2; omega
    exact retw [] ⟨by rw [wordOf, if_neg q], rfl⟩ trivial rfl trivial (fun _ => rfl)
  have q : 1 ≤ k ∧ k ≤ 10 := by simp at g g2; omega
  have hlt : k.toNat < l6Words.length := by show k.toNat < 11; omega
  refine stop_idx encStr (xs := l6Words) tabOk rfl rfl rfl rfl rfl ⟨rfl, rfl⟩ (rdOwnAt 0 rfl) k.toNat (by omega) hlt (fun ad => ?_)
  exact retw [] ⟨by rw [wordOf, if_pos q]; simp [List.getD, hlt], rfl⟩ trivial rfl trivial (fun _ => rfl)

set_option maxRecDepth 100000 in
theorem l6Numbers_c (i : Sl) (xs : List Int) (lo hi : Int) (w : World) (h : At w [slo i cInt 1 xs]) (hb : xs.length ≤ 4294967296) :
    Calls Tryz.prog 157 #[i.val xs.length, .int .i64 lo, .int .i64 hi] w (Tells w (within xs lo hi)) := by
  refine calls3 Tryz.func157 rfl tabOk w _ rfl _ rfl _ h ⟨rfl, rfl, trivial⟩ _ _ _ (by decide) ?_
  refine LoopW.mk ⟨{ k : Nat // k ≤ xs.length ∧ k ≤ 4 ∧ ∀ x ∈ xs.take k, lo ≤ x ∧ x ≤ hi },
    fun k => .mk [(0, .v (i.val xs.length)), (1, .v (.int .i64 lo)), (2, .v (.int .i64 hi)), (7, .v (.int .i64 (k.1 : Int)))] 0 0 [] [] [slo i cInt 1 xs],
    fun k => xs.length - k.1, ⟨0, Nat.zero_le _, by omega, by simp⟩, ?_, ?_⟩
  · refine weak_mk [0] ?_ ?_ ?_ ?_ ?_ rfl rfl
    · repeat (first | exact trivial | refine ⟨⟨_, rfl, (by first | exact .of rfl | exact .lit rfl | exact .of (by first | (rfl)) | exact .lit (by first | (rfl))), (by first | exact trivial | exact Nat.le_of_ble_eq_true rfl)⟩, ?_⟩)
    · repeat (first | exact trivial | refine ⟨⟨(by first | exact .head _ | exact .tail _ (.head _) | exact .tail _ (.tail _ (.head _)) | exact .tail _ (.tail _ (.tail _ (.head _))) | exact .tail _ (.tail _ (.tail _ (.tail _ (.head _)))) | exact .tail _ (.tail _ (.tail _ (.tail _ (.tail _ (.head _))))) | exact .tail _ (.tail _ (.tail _ (.tail _ (.tail _ (.tail _ (.head _)))))) | exact .tail _ (.tail _ (.tail _ (.tail _ (.tail _ (.tail _ (.tail _ (.head _))))))) | exact .tail _ (.tail _ (.tail _ (.tail _ (.tail _ (.tail _ (.tail _ (.tail _ (.head _)))))))) | exact .tail _ (.tail _ (.tail _ (.tail _ (.tail _ (.tail _ (.tail _ (.tail _ (.tail _ (.head _)))))))))), Nat.le_of_ble_eq_true rfl⟩, ?_⟩)
    · repeat (first | exact trivial | refine ⟨⟨_, rfl, (by first | exact .of rfl | exact .lit rfl | exact .of (by first | (rfl)) | exact .lit (by first | (rfl))), (by first | exact trivial | exact Nat.le_of_ble_eq_true rfl)⟩, ?_⟩)
    · repeat (first | exact trivial | refine ⟨⟨_, rfl⟩, ?_⟩)
    · repeat (first | exact trivial | refine ⟨.inl ⟨_, rfl, (by first | rfl | (rfl))⟩, ?_⟩ | refine ⟨.inr ⟨Nat.le_of_ble_eq_true rfl, rfl, rfl, rfl, rfl⟩, ?_⟩)
  rintro ⟨k, hk, h4, hinv⟩
  refine CaseB.mk (fun g => ?_) (fun g => ?_)
  · have hlt : k < xs.length := by simpa using g
    refine CaseB.mk (fun g => ?_) (fun g => ?_)
    · have h3 : k ≤ 3 := by simp at g; omega
      refine stop_idx encInt tabOk rfl rfl rfl rfl rfl ⟨rfl, rfl⟩ (by first | exact rdAt 0 rfl | exact rdOwnAt 0 rfl | exact rdAt 1 rfl | exact rdOwnAt 1 rfl | exact rdAt 2 rfl | exact rdOwnAt 2 rfl | exact rdAt 3 rfl | exact rdOwnAt 3 rfl | exact rdAt 4 rfl | exact rdOwnAt 4 rfl | exact rdAt 5 rfl | exact rdOwnAt 5 rfl | exact rdAt 6 rfl | exact rdOwnAt 6 rfl | exact rdAt 7 rfl | exact rdOwnAt 7 rfl | exact rdAt 8 rfl | exact rdOwnAt 8 rfl | exact rdAt 9 rfl | exact rdOwnAt 9 rfl | exact rdAt 10 rfl | exact rdOwnAt 10 rfl | exact rdAt 11 rfl | exact rdOwnAt 11 rfl | exact rdAt 12 rfl | exact rdOwnAt 12 rfl | exact rdAt 13 rfl | exact rdOwnAt 13 rfl | exact rdAt 14 rfl | exact rdOwnAt 14 rfl | exact rdAt 15 rfl | exact rdOwnAt 15 rfl | exact rdAt 16 rfl | exact rdOwnAt 16 rfl | exact rdAt 17 rfl | exact rdOwnAt 17 rfl | exact rdAt 18 rfl | exact rdOwnAt 18 rfl | exact rdAt 19 rfl | exact rdOwnAt 19 rfl | exact rdAt 20 rfl | exact rdOwnAt 20 rfl | exact rdAt 21 rfl | exact rdOwnAt 21 rfl | exact rdAt 22 rfl | exact rdOwnAt 22 rfl | exact rdAt 23 rfl | exact rdOwnAt 23 rfl) k rfl (by first | omega | (simp; done) | (simp; omega) | (unfold maxLen; omega) | (unfold maxLen; simp; done) | (unfold maxLen; simp; omega)) (fun ad => ?_)
      refine CaseB.mk (fun g => ?_) (fun g => ?_)
      · have q : xs[k] < lo := by simpa using g
        exact retw [] ⟨_, rfl, tno fun e => by have := (e.2 _ (List.getElem_mem hlt)).1; omega, rfl⟩ trivial rfl trivial (fun _ => rfl)
      have q1 : ¬ xs[k] < lo := by simpa using g
      refine stop_idx encInt tabOk rfl rfl rfl rfl rfl ⟨rfl, rfl⟩ (by first | exact rdAt 0 rfl | exact rdOwnAt 0 rfl | exact rdAt 1 rfl | exact rdOwnAt 1 rfl | exact rdAt 2 rfl | exact rdOwnAt 2 rfl | exact rdAt 3 rfl | exact rdOwnAt 3 rfl | exact rdAt 4 rfl | exact rdOwnAt 4 rfl | exact rdAt 5 rfl | exact rdOwnAt 5 rfl | exact rdAt 6 rfl | exact rdOwnAt 6 rfl | exact rdAt 7 rfl | exact rdOwnAt 7 rfl | exact rdAt 8 rfl | exact rdOwnAt 8 rfl | exact rdAt 9 rfl | exact rdOwnAt 9 rfl | exact rdAt 10 rfl | exact rdOwnAt 10 rfl | exact rdAt 11 rfl | exact rdOwnAt 11 rfl | exact rdAt 12 rfl | exact rdOwnAt 12 rfl | exact rdAt 13 rfl | exact rdOwnAt 13 rfl | exact rdAt 14 rfl | exact rdOwnAt 14 rfl | exact rdAt 15 rfl | exact rdOwnAt 15 rfl | exact rdAt 16 rfl | exact rdOwnAt 16 rfl | exact rdAt 17 rfl | exact rdOwnAt 17 rfl | exact rdAt 18 rfl | exact rdOwnAt 18 rfl | exact rdAt 19 rfl | exact rdOwnAt 19 rfl | exact rdAt 20 rfl | exact rdOwnAt 20 rfl | exact rdAt 21 rfl | exact rdOwnAt 21 rfl | exact rdAt 22 rfl | exact rdOwnAt 22 rfl | exact rdAt 23 rfl | exact rdOwnAt 23 rfl) k rfl (by first | omega | (simp; done) | (simp; omega) | (unfold maxLen; omega) | (unfold maxLen; simp; done) | (unfold maxLen; simp; omega)) (fun ad2 => ?_)
      refine CaseB.mk (fun g => ?_) (fun g => ?_)
      · have q : hi < xs[k] := by simpa using g
        exact retw [] ⟨_, rfl, tno fun e => by have := (e.2 _ (List.getElem_mem hlt)).2; omega, rfl⟩ trivial rfl trivial (fun _ => rfl)
      have q2 : ¬ hi < xs[k] := by simpa using g
      have hw := e_succ k _ hlt (by omega)
      refine ⟨⟨k + 1, by omega, by omega, fun x hx => ?_⟩, ?_, by simp; omega⟩
      · rw [List.take_succ_eq_append_getElem hlt] at hx
        rcases List.mem_append.1 hx with hx | hx
        · exact hinv x hx
        · simp at hx; subst hx; omega
      · refine weak_mk [0] ?_ ?_ ?_ ?_ ?_ rfl rfl
        · repeat (first | exact trivial | refine ⟨⟨_, rfl, (by first | exact .of rfl | exact .lit rfl | exact .of (by first | ((exact congrArg (fun z => SV.v (Value.int .i64 z)) hw))) | exact .lit (by first | ((exact congrArg (fun z => SV.v (Value.int .i64 z)) hw)))), (by first | exact trivial | exact Nat.le_of_ble_eq_true rfl)⟩, ?_⟩)
        · repeat (first | exact trivial | refine ⟨⟨(by first | exact .head _ | exact .tail _ (.head _) | exact .tail _ (.tail _ (.head _)) | exact .tail _ (.tail _ (.tail _ (.head _))) | exact .tail _ (.tail _ (.tail _ (.tail _ (.head _)))) | exact .tail _ (.tail _ (.tail _ (.tail _ (.tail _ (.head _))))) | exact .tail _ (.tail _ (.tail _ (.tail _ (.tail _ (.tail _ (.head _)))))) | exact .tail _ (.tail _ (.tail _ (.tail _ (.tail _ (.tail _ (.tail _ (.head _))))))) | exact .tail _ (.tail _ (.tail _ (.tail _ (.tail _ (.tail _ (.tail _ (.tail _ (.head _)))))))) | exact .tail _ (.tail _ (.tail _ (.tail _ (.tail _ (.tail _ (.tail _ (.tail _ (.tail _ (.head _)))))))))), Nat.le_of_ble_eq_true rfl⟩, ?_⟩)
        · repeat (first | exact trivial | refine ⟨⟨_, rfl, (by first | exact .of rfl | exact .lit rfl | exact .of (by first | ((exact congrArg (fun z => SV.v (Value.int .i64 z)) hw))) | exact .lit (by first | ((exact congrArg (fun z => SV.v (Value.int .i64 z)) hw)))), (by first | exact trivial | exact Nat.le_of_ble_eq_true rfl)⟩, ?_⟩)
        · repeat (first | exact trivial | refine ⟨⟨_, rfl⟩, ?_⟩)
        · repeat (first | exact trivial | refine ⟨.inl ⟨_, rfl, (by first | rfl | ((exact congrArg (fun z => SV.v (Value.int .i64 z)) hw)))⟩, ?_⟩ | refine ⟨.inr ⟨Nat.le_of_ble_eq_true rfl, rfl, rfl, rfl, rfl⟩, ?_⟩)
    · have h3 : ¬ k ≤ 3 := by simp at g; omega
      have : ¬ xs.length ≤ 3 := by omega
      exact retw [] ⟨_, rfl, by simp [within]; omega, rfl⟩ trivial rfl trivial (fun _ => rfl)
  · have hge : xs.length ≤ k := by simpa using g
    rw [List.take_of_length_le hge] at hinv
    refine retw [] ⟨_, rfl, ?_, rfl⟩ trivial rfl trivial (fun _ => rfl)
    simp only [within, decide_eq_true_eq]
    exact ⟨fun e => ⟨by omega, hinv⟩, fun e => by have := e.1; omega⟩

set_option maxRecDepth 100000 in
theorem l6Shared_c (p : ProgH) (k : Int) (w : World) : Calls Tryz.prog 197 #[progV p, .int .i64 k] w (Ret w fun v L => v = .int .i64 (p.pure.shared k) ∧ L = []) := by
  have t : p.pure.sems = p.sems ∧ p.pure.groups = p.groups ∧ p.pure.barriers = p.barriers ∧ p.pure.rooms = p.rooms := ⟨rfl, rfl, rfl, rfl⟩
  refine calls2 Tryz.func197 rfl tabOk w _ rfl _ rfl [] trivial trivial _ _ (by decide) ?_
  refine CaseB.mk (fun k1 => ?_) (fun k1 => ?_)
  · have q1 : k = 1 := by simpa using k1
    exact retw [] ⟨by simp [Prog.shared, q1], rfl⟩ trivial rfl trivial (fun _ => rfl)
  have q1 : ¬ k = 1 := by simpa using k1
  refine CaseB.mk (fun k2 => ?_) (fun k2 => ?_)
  · have q2 : k = 2 := by simpa using k2
    refine CaseB.mk (fun _ => ?_) (fun g => by rw [k2] at g; cases g)
    exact retw [] ⟨by simp [Prog.shared, t, q2], rfl⟩ trivial rfl trivial (fun _ => rfl)
  have q2 : ¬ k = 2 := by simpa using k2
  refine CaseB.mk (fun k3 => ?_) (fun k3 => ?_)
  · have q3 : k = 3 := by simpa using k3
    exact retw [] ⟨by simp [Prog.shared, t, q3], rfl⟩ trivial rfl trivial (fun _ => rfl)
  have q3 : ¬ k = 3 := by simpa using k3
  refine CaseB.mk (fun k4 => ?_) (fun k4 => ?_)
  · have q4 : k = 4 := by simpa using k4
    exact retw [] ⟨by simp [Prog.shared, q4], rfl⟩ trivial rfl trivial (fun _ => rfl)
  have q4 : ¬ k = 4 := by simpa using k4
  refine CaseB.mk (fun k5 => ?_) (fun k5 => ?_)
  · have q5 : k = 5 := by simpa using k5
    refine CaseB.mk (fun _ => ?_) (fun g => by rw [k5] at g; cases g)
    exact retw [] ⟨by simp [Prog.shared, t, q5], rfl⟩ trivial rfl trivial (fun _ => rfl)
  have q5 : ¬ k = 5 := by simpa using k5
  refine CaseB.mk (fun k6 => ?_) (fun k6 => ?_)
  · have q6 : k = 6 := by simpa using k6
    exact retw [] ⟨by simp [Prog.shared, t, q6], rfl⟩ trivial rfl trivial (fun _ => rfl)
  have q6 : ¬ k = 6 := by simpa using k6
  refine CaseB.mk (fun k7 => ?_) (fun k7 => ?_)
  · have q7 : k = 7 := by simpa using k7
    exact retw [] ⟨by simp [Prog.shared, t, q7], rfl⟩ trivial rfl trivial (fun _ => rfl)
  have q7 : ¬ k = 7 := by simpa using k7
  exact retw [] ⟨by simp [Prog.shared, t, q1, q2, q3, q4, q5, q6, q7], rfl⟩ trivial rfl trivial (fun _ => rfl)

set_option maxRecDepth 100000 in
theorem l6Arg_c (p : ProgH) (o : Op) (w : World) (h : At w [fR (progO p)]) (h0 : 0 ≤ o.on) (h1 : o.on < p.pure.shared o.kind) :
    Calls Tryz.prog 198 #[progV p, .agg (cOp o).toArray] w (Tells w (p.pure.argOk o)) := by
  refine calls2 Tryz.func198 rfl tabOk w _ rfl _ rfl _ h ⟨rfl, rfl, trivial⟩ _ _ (by decide) ?_
  refine CaseB.mk (fun k2 => ?_) (fun k2 => ?_)
  · refine CaseB.mk (fun _ => ?_) (fun g => by rw [k2] at g; cases g)
    have q : o.kind = 2 := by simpa using k2
    have hs : o.on < (p.sems.length : Int) := by simpa [Prog.shared, q, ProgH.pure] using h1
    have hlt : o.on.toNat < p.sems.length := by omega
    have e : p.pure.sems.getD o.on.toNat 0 = p.sems[o.on.toNat] := by simp [ProgH.pure, List.getD, hlt]
    have hx : p.pure.argOk o ↔ 1 ≤ o.arg ∧ o.arg ≤ p.sems[o.on.toNat] := by rw [← e]; simp [Prog.argOk, q]
    refine draw_start tabOk (by kernel_rfl) (by kernel_rfl) (by kernel_rfl) 200 [((0, 0), .v (p.h0.val p.sems.length)), ((1, 0), .v (.int .i64 o.kind)), ((1, 1), .v (.int .i64 o.on)), ((1, 2), .v (.int .i64 o.arg))] [0] [_] ⟨⟨_, rfl, rfl, (by first | exact trivial | exact Nat.le_of_ble_eq_true rfl)⟩, ⟨_, rfl, rfl, (by first | exact trivial | exact Nat.le_of_ble_eq_true rfl)⟩, ⟨_, rfl, rfl, (by first | exact trivial | exact Nat.le_of_ble_eq_true rfl)⟩, ⟨_, rfl, rfl, (by first | exact trivial | exact Nat.le_of_ble_eq_true rfl)⟩, trivial⟩ ⟨⟨_, rfl⟩, ⟨_, rfl⟩, ⟨_, rfl⟩, ⟨_, rfl⟩, trivial⟩ ⟨rfl, trivial⟩ rfl ?_
    refine CaseB.mk (fun g => ?_) (fun g => ?_)
    · have c : 1 ≤ o.arg := by simp at g; omega
      refine d_idx (ti := tiOf tab) encInt tabOk rfl rfl rfl rfl rfl ⟨rfl, rfl⟩ (rdVia 0 rfl (.ofR (progO_sems p))) o.on.toNat (by omega) (by first | omega | (simp; done) | (simp; omega) | (unfold maxLen; omega) | (unfold maxLen; simp; done) | (unfold maxLen; simp; omega)) (fun ad => ?_)
      exact retw [] ⟨_, rfl, by rw [hx]; simp [c], rfl⟩ trivial rfl trivial (fun _ => rfl)
    · have c : ¬ 1 ≤ o.arg := by simp at g; omega
      exact retw [] ⟨_, rfl, tno fun e => c (hx.1 e).1, rfl⟩ trivial rfl trivial (fun _ => rfl)
  refine CaseB.mk (fun k3 => ?_) (fun k3 => ?_)
  · skip
    have q : o.kind = 3 := by simpa using k3
    have hs : o.on < (p.sems.length : Int) := by simpa [Prog.shared, q, ProgH.pure] using h1
    have hlt : o.on.toNat < p.sems.length := by omega
    have e : p.pure.sems.getD o.on.toNat 0 = p.sems[o.on.toNat] := by simp [ProgH.pure, List.getD, hlt]
    have hx : p.pure.argOk o ↔ 1 ≤ o.arg ∧ o.arg ≤ p.sems[o.on.toNat] := by rw [← e]; simp [Prog.argOk, q]
    refine draw_start tabOk (by kernel_rfl) (by kernel_rfl) (by kernel_rfl) 200 [((0, 0), .v (p.h0.val p.sems.length)), ((1, 0), .v (.int .i64 o.kind)), ((1, 1), .v (.int .i64 o.on)), ((1, 2), .v (.int .i64 o.arg))] [0] [_] ⟨⟨_, rfl, rfl, (by first | exact trivial | exact Nat.le_of_ble_eq_true rfl)⟩, ⟨_, rfl, rfl, (by first | exact trivial | exact Nat.le_of_ble_eq_true rfl)⟩, ⟨_, rfl, rfl, (by first | exact trivial | exact Nat.le_of_ble_eq_true rfl)⟩, ⟨_, rfl, rfl, (by first | exact trivial | exact Nat.le_of_ble_eq_true rfl)⟩, trivial⟩ ⟨⟨_, rfl⟩, ⟨_, rfl⟩, ⟨_, rfl⟩, ⟨_, rfl⟩, trivial⟩ ⟨rfl, trivial⟩ rfl ?_
    refine CaseB.mk (fun g => ?_) (fun g => ?_)
    · have c : 1 ≤ o.arg := by simp at g; omega
      refine d_idx (ti := tiOf tab) encInt tabOk rfl rfl rfl rfl rfl ⟨rfl, rfl⟩ (rdVia 0 rfl (.ofR (progO_sems p))) o.on.toNat (by omega) (by first | omega | (simp; done) | (simp; omega) | (unfold maxLen; omega) | (unfold maxLen; simp; done) | (unfold maxLen; simp; omega)) (fun ad => ?_)
      exact retw [] ⟨_, rfl, by rw [hx]; simp [c], rfl⟩ trivial rfl trivial (fun _ => rfl)
    · have c : ¬ 1 ≤ o.arg := by simp at g; omega
      exact retw [] ⟨_, rfl, tno fun e => c (hx.1 e).1, rfl⟩ trivial rfl trivial (fun _ => rfl)
  have n2 : ¬ o.kind = 2 := by simpa using k2
  have n3 : ¬ o.kind = 3 := by simpa using k3
  refine CaseB.mk (fun k5 => ?_) (fun k5 => ?_)
  · have q : o.kind = 5 := by simpa using k5
    have hx : p.pure.argOk o ↔ -9 ≤ o.arg ∧ o.arg ≤ 9 := by simp [Prog.argOk, q]
    refine CaseB.mk (fun g => ?_) (fun g => ?_)
    · have c : -9 ≤ o.arg := by simp at g; omega
      exact retw [] ⟨_, rfl, by rw [hx]; simp [c], rfl⟩ trivial rfl trivial (fun _ => rfl)
    · have c : ¬ -9 ≤ o.arg := by simp at g; omega
      exact retw [] ⟨_, rfl, tno fun e => c (hx.1 e).1, rfl⟩ trivial rfl trivial (fun _ => rfl)
  have n5 : ¬ o.kind = 5 := by simpa using k5
  refine CaseB.mk (fun k1 => ?_) (fun k1 => ?_)
  · have q : o.kind = 1 := by simpa using k1
    have hx : p.pure.argOk o ↔ isValue o.arg = true := by simp [Prog.argOk, q]
    refine CaseB.mk (fun _ => ?_) (fun g => by rw [k1] at g; cases g)
    refine stop_call _ cl96 rfl rfl rfl rfl ⟨rfl, rfl⟩ (fun A w hW => l2Value_c _ w) ?_
    rintro v L ⟨rfl, rfl⟩
    exact retw [] ⟨_, rfl, by rw [hx], rfl⟩ trivial rfl trivial (fun _ => rfl)
  have n1 : ¬ o.kind = 1 := by simpa using k1
  refine CaseB.mk (fun k4 => ?_) (fun k4 => ?_)
  · have q : o.kind = 4 := by simpa using k4
    have hx : p.pure.argOk o ↔ isValue o.arg = true := by simp [Prog.argOk, q]
    refine CaseB.mk (fun _ => ?_) (fun g => by rw [k4] at g; cases g)
    refine stop_call _ cl96 rfl rfl rfl rfl ⟨rfl, rfl⟩ (fun A w hW => l2Value_c _ w) ?_
    rintro v L ⟨rfl, rfl⟩
    exact retw [] ⟨_, rfl, by rw [hx], rfl⟩ trivial rfl trivial (fun _ => rfl)
  have n4 : ¬ o.kind = 4 := by simpa using k4
  refine CaseB.mk (fun k8 => ?_) (fun k8 => ?_)
  · have q : o.kind = 8 := by simpa using k8
    have hx : p.pure.argOk o ↔ isValue o.arg = true := by simp [Prog.argOk, q]
    refine stop_call _ cl96 rfl rfl rfl rfl ⟨rfl, rfl⟩ (fun A w hW => l2Value_c _ w) ?_
    rintro v L ⟨rfl, rfl⟩
    exact retw [] ⟨_, rfl, by rw [hx], rfl⟩ trivial rfl trivial (fun _ => rfl)
  have n8 : ¬ o.kind = 8 := by simpa using k8
  have hx : p.pure.argOk o ↔ o.arg = 0 := by simp [Prog.argOk, n1, n2, n3, n4, n5, n8]
  exact retw [] ⟨_, rfl, by rw [hx]; simp, rfl⟩ trivial rfl trivial (fun _ => rfl)

set_option maxHeartbeats 4000000 in
set_option maxRecDepth 100000 in
theorem opValidS_c (p : ProgH) (o : Op) (w : World) (h : At w [fR (progO p)]) :
    Calls Tryz.prog 158 #[progV p, .agg (cOp o).toArray] w (Tells w (OpOk p.pure o)) := by
  refine calls2 Tryz.func158 rfl tabOk w _ rfl _ rfl _ h ⟨rfl, rfl, trivial⟩ _ _ (by decide) ?_
  refine draw_start tabOk (by kernel_rfl) (by kernel_rfl) (by kernel_rfl) 200 [((0, 0), .v (p.h0.val p.sems.length)), ((0, 1), .v (p.h1.val p.groups.length)), ((0, 2), .v (p.h2.val p.barriers.length)), ((0, 3), .v (p.h3.val p.rooms.length)), ((0, 4), .v (p.h4.val p.threads.length)), ((1, 0), .v (.int .i64 o.kind)), ((1, 1), .v (.int .i64 o.on)), ((1, 2), .v (.int .i64 o.arg))] [0] [_] ⟨⟨_, rfl, rfl, (by first | exact trivial | exact Nat.le_of_ble_eq_true rfl)⟩, ⟨_, rfl, rfl, (by first | exact trivial | exact Nat.le_of_ble_eq_true rfl)⟩, ⟨_, rfl, rfl, (by first | exact trivial | exact Nat.le_of_ble_eq_true rfl)⟩, ⟨_, rfl, rfl, (by first | exact trivial | exact Nat.le_of_ble_eq_true rfl)⟩, ⟨_, rfl, rfl, (by first | exact trivial | exact Nat.le_of_ble_eq_true rfl)⟩, ⟨_, rfl, rfl, (by first | exact trivial | exact Nat.le_of_ble_eq_true rfl)⟩, ⟨_, rfl, rfl, (by first | exact trivial | exact Nat.le_of_ble_eq_true rfl)⟩, ⟨_, rfl, rfl, (by first | exact trivial | exact Nat.le_of_ble_eq_true rfl)⟩, trivial⟩ ⟨⟨_, rfl⟩, ⟨_, rfl⟩, ⟨_, rfl⟩, ⟨_, rfl⟩, ⟨_, rfl⟩, ⟨_, rfl⟩, ⟨_, rfl⟩, ⟨_, rfl⟩, trivial⟩ ⟨rfl, trivial⟩ rfl ?_
  refine d_call _ cl196 rfl rfl rfl rfl ⟨rfl, rfl⟩ (fun A w hW => l6Word_c _ w) ?_
  rintro v L ⟨rfl, rfl⟩
  refine d_bin rfl rfl rfl ⟨rfl, rfl⟩ (.bool ((wordOf o.kind).toList == (⟨#[]⟩ : ByteArray).toList)) (fun w => (eqGuard_str w)) (fun w => (eql_str w)) ?_
  refine CaseB.mk (fun g => ?_) (fun g => ?_)
  · have q := (wordOf_empty o.kind).1 g
    exact retw [] ⟨_, rfl, tno fun e => q ⟨e.1, e.2.1⟩, rfl⟩ trivial rfl trivial (fun _ => rfl)
  have q : 1 ≤ o.kind ∧ o.kind ≤ 10 := by
    refine Classical.byContradiction fun n => ?_
    rw [(wordOf_empty o.kind).2 n] at g
    cases g
  refine CaseB.mk (fun g => ?_) (fun g => ?_)
  · have c : ¬ 0 ≤ o.on := by simp at g; omega
    exact retw [] ⟨_, rfl, tno fun e => c e.2.2.1, rfl⟩ trivial rfl trivial (fun _ => rfl)
  have c0 : 0 ≤ o.on := by simp at g; omega
  refine d_call _ cl197 rfl rfl rfl rfl ⟨rfl, rfl⟩ (fun A w hW => l6Shared_c p _ w) ?_
  rintro v L ⟨rfl, rfl⟩
  refine CaseB.mk (fun g => ?_) (fun g => ?_)
  · have c : ¬ o.on < p.pure.shared o.kind := by simp at g; omega
    exact retw [] ⟨_, rfl, tno fun e => c e.2.2.2.1, rfl⟩ trivial rfl trivial (fun _ => rfl)
  have c1 : o.on < p.pure.shared o.kind := by simp at g; omega
  refine stop_call _ cl198 rfl rfl rfl rfl ⟨rfl, rfl⟩ (fun A w hW => l6Arg_c p o w ⟨hW.get 0 rfl (.refl _), trivial⟩ c0 c1) ?_
  rintro v L ⟨b, rfl, hb, rfl⟩
  exact retw [] ⟨_, rfl, by rw [hb]; simp [OpOk, q, c0, c1], rfl⟩ trivial rfl trivial (fun _ => rfl)

set_option maxHeartbeats 16000000 in
set_option maxRecDepth 100000 in
theorem progValidS_c (p : ProgH) (w : World) (h : At w [fR (progO p)]) (hs : p.sems.length ≤ 1048576 ∧ p.groups.length ≤ 1048576 ∧ p.barriers.length ≤ 1048576 ∧ p.rooms.length ≤ 1048576) :
    Calls Tryz.prog 94 #[progV p] w (Tells w (ProgOk p.pure)) := by
  refine calls1 Tryz.func94 rfl tabOk w _ rfl _ rfl _ h ⟨rfl, rfl, trivial⟩ _ (by decide) ?_
  refine stop_call _ cl157 rfl rfl rfl rfl ⟨rfl, rfl⟩ (fun A w hW => l6Numbers_c p.h0 p.sems 1 9 w ⟨hW.get 0 rfl (.ofR (progO_sems p)), trivial⟩ (by omega)) ?_
  rintro v L ⟨b0, rfl, hb0, rfl⟩
  refine CaseB.mk (fun g => ?_) (fun g => ?_)
  · exact retw [] ⟨_, rfl, tno fun e => (by have := hb0.2 e.sems; rw [this] at g; cases g), rfl⟩ trivial rfl trivial (fun _ => rfl)
  have w0 := hb0.1 (by simpa using g)
  refine stop_call _ cl157 rfl rfl rfl rfl ⟨rfl, rfl⟩ (fun A w hW => l6Numbers_c p.h1 p.groups 0 9 w ⟨hW.get 0 rfl (.ofR (progO_groups p)), trivial⟩ (by omega)) ?_
  rintro v L ⟨b1, rfl, hb1, rfl⟩
  refine CaseB.mk (fun g => ?_) (fun g => ?_)
  · exact retw [] ⟨_, rfl, tno fun e => (by have := hb1.2 e.groups; rw [this] at g; cases g), rfl⟩ trivial rfl trivial (fun _ => rfl)
  have w1 := hb1.1 (by simpa using g)
  refine stop_call _ cl157 rfl rfl rfl rfl ⟨rfl, rfl⟩ (fun A w hW => l6Numbers_c p.h2 p.barriers 1 6 w ⟨hW.get 0 rfl (.ofR (progO_barriers p)), trivial⟩ (by omega)) ?_
  rintro v L ⟨b2, rfl, hb2, rfl⟩
  refine CaseB.mk (fun g => ?_) (fun g => ?_)
  · exact retw [] ⟨_, rfl, tno fun e => (by have := hb2.2 e.barriers; rw [this] at g; cases g), rfl⟩ trivial rfl trivial (fun _ => rfl)
  have w2 := hb2.1 (by simpa using g)
  refine stop_call _ cl157 rfl rfl rfl rfl ⟨rfl, rfl⟩ (fun A w hW => l6Numbers_c p.h3 p.rooms 0 4 w ⟨hW.get 0 rfl (.ofR (progO_rooms p)), trivial⟩ (by omega)) ?_
  rintro v L ⟨b3, rfl, hb3, rfl⟩
  refine CaseB.mk (fun g => ?_) (fun g => ?_)
  · exact retw [] ⟨_, rfl, tno fun e => (by have := hb3.2 e.rooms; rw [this] at g; cases g), rfl⟩ trivial rfl trivial (fun _ => rfl)
  have w3 := hb3.1 (by simpa using g)
  have hlen : p.pure.threads.length = p.threads.length := by simp [ProgH.pure]
  refine CaseB.mk (fun g => ?_) (fun g => ?_)
  · have q : ¬ 1 ≤ p.threads.length := by have g' := of_decide_eq_true g; omega
    exact retw [] ⟨_, rfl, tno fun e => q (hlen ▸ e.n1), rfl⟩ trivial rfl trivial (fun _ => rfl)
  have n1 : 1 ≤ p.threads.length := by have g' := of_decide_eq_false g; omega
  refine CaseB.mk (fun g => ?_) (fun g => ?_)
  · have q : ¬ p.threads.length ≤ 4 := by simp at g; omega
    exact retw [] ⟨_, rfl, tno fun e => q (hlen ▸ e.n4), rfl⟩ trivial rfl trivial (fun _ => rfl)
  have n4 : p.threads.length ≤ 4 := by simp at g; omega
  have hmem : ∀ (k : Nat) (hk : k < p.threads.length), (p.threads[k]).m ∈ p.pure.threads := fun k hk => List.mem_map_of_mem (List.getElem_mem hk)
  refine LoopW.mk ⟨{ k : Nat // k ≤ p.threads.length ∧ ∀ t ∈ p.pure.threads.take k, t.length ≤ 8 ∧ ∀ o ∈ t, OpOk p.pure o },
    fun k => .mk [(1, .p 0 0), (3, .v (.int .i64 (k.1 : Int)))] 1 0 [(0, 46, 5)] [((0, 0), .v (p.h0.val p.sems.length)), ((0, 1), .v (p.h1.val p.groups.length)), ((0, 2), .v (p.h2.val p.barriers.length)), ((0, 3), .v (p.h3.val p.rooms.length)), ((0, 4), .v (p.h4.val p.threads.length))] [fR (progO p)],
    fun k => p.threads.length - k.1, ⟨0, Nat.zero_le _, by simp⟩, ?_, ?_⟩
  · refine weak_mk [0] ?_ ?_ ?_ ?_ ?_ rfl rfl
    · repeat (first | exact trivial | refine ⟨⟨_, rfl, (by first | exact .of rfl | exact .lit rfl | exact .of (by first | (rfl)) | exact .lit (by first | (rfl))), (by first | exact trivial | exact Nat.le_of_ble_eq_true rfl)⟩, ?_⟩)
    · repeat (first | exact trivial | refine ⟨⟨(by first | exact .head _ | exact .tail _ (.head _) | exact .tail _ (.tail _ (.head _)) | exact .tail _ (.tail _ (.tail _ (.head _))) | exact .tail _ (.tail _ (.tail _ (.tail _ (.head _)))) | exact .tail _ (.tail _ (.tail _ (.tail _ (.tail _ (.head _))))) | exact .tail _ (.tail _ (.tail _ (.tail _ (.tail _ (.tail _ (.head _)))))) | exact .tail _ (.tail _ (.tail _ (.tail _ (.tail _ (.tail _ (.tail _ (.head _))))))) | exact .tail _ (.tail _ (.tail _ (.tail _ (.tail _ (.tail _ (.tail _ (.tail _ (.head _)))))))) | exact .tail _ (.tail _ (.tail _ (.tail _ (.tail _ (.tail _ (.tail _ (.tail _ (.tail _ (.head _)))))))))), Nat.le_of_ble_eq_true rfl⟩, ?_⟩)
    · repeat (first | exact trivial | refine ⟨⟨_, rfl, (by first | exact .of rfl | exact .lit rfl | exact .of (by first | (rfl)) | exact .lit (by first | (rfl))), (by first | exact trivial | exact Nat.le_of_ble_eq_true rfl)⟩, ?_⟩)
    · repeat (first | exact trivial | refine ⟨⟨_, rfl⟩, ?_⟩)
    · repeat (first | exact trivial | refine ⟨.inl ⟨_, rfl, (by first | rfl | (rfl))⟩, ?_⟩ | refine ⟨.inr ⟨Nat.le_of_ble_eq_true rfl, rfl, rfl, rfl, rfl⟩, ?_⟩)
  rintro ⟨k, hk, hinv⟩
  refine CaseB.mk (fun g => ?_) (fun g => ?_)
  · have hlt : k < p.threads.length := by simpa using g
    have hget : p.pure.threads[k]'(by rw [hlen]; exact hlt) = (p.threads[k]).m := by simp [ProgH.pure]
    refine LoopW.mk ⟨{ j : Nat // j ≤ (p.threads[k]).m.length ∧ j ≤ 9 ∧ ∀ o ∈ (p.threads[k]).m.take j, OpOk p.pure o },
      fun j => .mk [(1, .p 0 0), (3, .v (.int .i64 (k : Int))), (4, .v (.int .i64 (j.1 : Int)))] 1 0 [(0, 46, 5)] [((0, 0), .v (p.h0.val p.sems.length)), ((0, 1), .v (p.h1.val p.groups.length)), ((0, 2), .v (p.h2.val p.barriers.length)), ((0, 3), .v (p.h3.val p.rooms.length)), ((0, 4), .v (p.h4.val p.threads.length))] [fR (progO p)],
      fun j => (p.threads[k]).m.length - j.1, ⟨0, Nat.zero_le _, by omega, by simp⟩, ?_, ?_⟩
    · refine weak_mk [0] ?_ ?_ ?_ ?_ ?_ rfl rfl
      · repeat (first | exact trivial | refine ⟨⟨_, rfl, (by first | exact .of rfl | exact .lit rfl | exact .of (by first | (rfl)) | exact .lit (by first | (rfl))), (by first | exact trivial | exact Nat.le_of_ble_eq_true rfl)⟩, ?_⟩)
      · repeat (first | exact trivial | refine ⟨⟨(by first | exact .head _ | exact .tail _ (.head _) | exact .tail _ (.tail _ (.head _)) | exact .tail _ (.tail _ (.tail _ (.head _))) | exact .tail _ (.tail _ (.tail _ (.tail _ (.head _)))) | exact .tail _ (.tail _ (.tail _ (.tail _ (.tail _ (.head _))))) | exact .tail _ (.tail _ (.tail _ (.tail _ (.tail _ (.tail _ (.head _)))))) | exact .tail _ (.tail _ (.tail _ (.tail _ (.tail _ (.tail _ (.tail _ (.head _))))))) | exact .tail _ (.tail _ (.tail _ (.tail _ (.tail _ (.tail _ (.tail _ (.tail _ (.head _)))))))) | exact .tail _ (.tail _ (.tail _ (.tail _ (.tail _ (.tail _ (.tail _ (.tail _ (.tail _ (.head _)))))))))), Nat.le_of_ble_eq_true rfl⟩, ?_⟩)
      · repeat (first | exact trivial | refine ⟨⟨_, rfl, (by first | exact .of rfl | exact .lit rfl | exact .of (by first | (rfl)) | exact .lit (by first | (rfl))), (by first | exact trivial | exact Nat.le_of_ble_eq_true rfl)⟩, ?_⟩)
      · repeat (first | exact trivial | refine ⟨⟨_, rfl⟩, ?_⟩)
      · repeat (first | exact trivial | refine ⟨.inl ⟨_, rfl, (by first | rfl | (rfl))⟩, ?_⟩ | refine ⟨.inr ⟨Nat.le_of_ble_eq_true rfl, rfl, rfl, rfl, rfl⟩, ?_⟩)
    rintro ⟨j, hj, h9, hinv2⟩
    refine stop_idx encOpSH tabOk rfl rfl rfl rfl rfl ⟨rfl, rfl⟩ (rdVia 0 rfl (.trans (.R_R (progO_threads p)) (.ofR nest_h))) k rfl (by first | omega | (simp; done) | (simp; omega) | (unfold maxLen; omega) | (unfold maxLen; simp; done) | (unfold maxLen; simp; omega)) (fun ad => ?_)
    have hend : ((p.threads[k]).m.length ≤ 8 → (p.threads[k]).m.length ≤ j) → (p.threads[k]).m.length ≤ 8 → ∀ t ∈ p.pure.threads.take (k + 1), t.length ≤ 8 ∧ ∀ o ∈ t, OpOk p.pure o := fun hge2 n8 t ht => by
      rw [List.take_succ_eq_append_getElem (by rw [hlen]; exact hlt)] at ht
      rcases List.mem_append.1 ht with ht | ht
      · exact hinv t ht
      · simp only [List.mem_singleton] at ht
        rw [hget] at ht
        subst ht
        exact ⟨n8, by rw [List.take_of_length_le (hge2 n8)] at hinv2; exact hinv2⟩
    have hw := e_succ k _ hlt (by omega)
    refine CaseB.mk (fun g => ?_) (fun g => ?_)
    · have hlj : j < (p.threads[k]).m.length := by simpa using g
      refine CaseB.mk (fun g => ?_) (fun g => ?_)
      · have h8 : j ≤ 8 := by simp at g; omega
        refine draw_start tabOk (by kernel_rfl) (by kernel_rfl) (by kernel_rfl) 200 [((0, 0), .v (p.h0.val p.sems.length)), ((0, 1), .v (p.h1.val p.groups.length)), ((0, 2), .v (p.h2.val p.barriers.length)), ((0, 3), .v (p.h3.val p.rooms.length)), ((0, 4), .v (p.h4.val p.threads.length))] [0] [_] ⟨⟨_, rfl, rfl, (by first | exact trivial | exact Nat.le_of_ble_eq_true rfl)⟩, ⟨_, rfl, rfl, (by first | exact trivial | exact Nat.le_of_ble_eq_true rfl)⟩, ⟨_, rfl, rfl, (by first | exact trivial | exact Nat.le_of_ble_eq_true rfl)⟩, ⟨_, rfl, rfl, (by first | exact trivial | exact Nat.le_of_ble_eq_true rfl)⟩, ⟨_, rfl, rfl, (by first | exact trivial | exact Nat.le_of_ble_eq_true rfl)⟩, trivial⟩ ⟨⟨_, rfl⟩, ⟨_, rfl⟩, ⟨_, rfl⟩, ⟨_, rfl⟩, ⟨_, rfl⟩, trivial⟩ ⟨rfl, trivial⟩ rfl ?_
        refine d_idx (ti := tiOf tab) encOpSH tabOk rfl rfl rfl rfl rfl ⟨rfl, rfl⟩ (rdVia 0 rfl (.trans (.R_R (progO_threads p)) (.ofR nest_h))) k rfl (by first | omega | (simp; done) | (simp; omega) | (unfold maxLen; omega) | (unfold maxLen; simp; done) | (unfold maxLen; simp; omega)) (fun ad3 => ?_)
        refine d_idx (ti := tiOf tab) encOp tabOk rfl rfl rfl rfl rfl ⟨rfl, rfl⟩ (rdVia 0 rfl (.trans (.R_R (progO_threads p)) (.ofR (threadsO_0 _ _ k hlt)))) j rfl (by first | omega | (simp; done) | (simp; omega) | (unfold maxLen; omega) | (unfold maxLen; simp; done) | (unfold maxLen; simp; omega)) (fun ad2 => ?_)
        refine d_call _ cl158 rfl rfl rfl rfl ⟨rfl, rfl⟩ (fun A w hW => opValidS_c p _ w ⟨hW.get 0 rfl (.refl _), trivial⟩) ?_
        rintro v L ⟨b, rfl, hb, rfl⟩
        refine CaseB.mk (fun g => ?_) (fun g => ?_)
        · exact retw [] ⟨_, rfl, tno fun e => (by have := hb.2 ((e.ops _ (hmem k hlt)).2 _ (List.getElem_mem hlj)); rw [this] at g; cases g), rfl⟩ trivial rfl trivial (fun _ => rfl)
        have hw := e_succ j 9 (by omega) (by omega)
        refine ⟨⟨j + 1, by omega, by omega, fun o ho => ?_⟩, ?_, by simp; omega⟩
        · rw [List.take_succ_eq_append_getElem hlj] at ho
          rcases List.mem_append.1 ho with ho | ho
          · exact hinv2 o ho
          · simp at ho; subst ho; exact hb.1 (by simpa using g)
        · refine weak_mk [0] ?_ ?_ ?_ ?_ ?_ rfl rfl
          · repeat (first | exact trivial | refine ⟨⟨_, rfl, (by first | exact .of rfl | exact .lit rfl | exact .of (by first | ((exact congrArg (fun z => SV.v (Value.int .i64 z)) hw))) | exact .lit (by first | ((exact congrArg (fun z => SV.v (Value.int .i64 z)) hw)))), (by first | exact trivial | exact Nat.le_of_ble_eq_true rfl)⟩, ?_⟩)
          · repeat (first | exact trivial | refine ⟨⟨(by first | exact .head _ | exact .tail _ (.head _) | exact .tail _ (.tail _ (.head _)) | exact .tail _ (.tail _ (.tail _ (.head _))) | exact .tail _ (.tail _ (.tail _ (.tail _ (.head _)))) | exact .tail _ (.tail _ (.tail _ (.tail _ (.tail _ (.head _))))) | exact .tail _ (.tail _ (.tail _ (.tail _ (.tail _ (.tail _ (.head _)))))) | exact .tail _ (.tail _ (.tail _ (.tail _ (.tail _ (.tail _ (.tail _ (.head _))))))) | exact .tail _ (.tail _ (.tail _ (.tail _ (.tail _ (.tail _ (.tail _ (.tail _ (.head _)))))))) | exact .tail _ (.tail _ (.tail _ (.tail _ (.tail _ (.tail _ (.tail _ (.tail _ (.tail _ (.head _)))))))))), Nat.le_of_ble_eq_true rfl⟩, ?_⟩)
          · repeat (first | exact trivial | refine ⟨⟨_, rfl, (by first | exact .of rfl | exact .lit rfl | exact .of (by first | ((exact congrArg (fun z => SV.v (Value.int .i64 z)) hw))) | exact .lit (by first | ((exact congrArg (fun z => SV.v (Value.int .i64 z)) hw)))), (by first | exact trivial | exact Nat.le_of_ble_eq_true rfl)⟩, ?_⟩)
          · repeat (first | exact trivial | refine ⟨⟨_, rfl⟩, ?_⟩)
          · repeat (first | exact trivial | refine ⟨.inl ⟨_, rfl, (by first | rfl | ((exact congrArg (fun z => SV.v (Value.int .i64 z)) hw)))⟩, ?_⟩ | refine ⟨.inr ⟨Nat.le_of_ble_eq_true rfl, rfl, rfl, rfl, rfl⟩, ?_⟩)
      · have h8 : ¬ j ≤ 8 := by simp at g; omega
        refine stop_idx encOpSH tabOk rfl rfl rfl rfl rfl ⟨rfl, rfl⟩ (rdVia 0 rfl (.trans (.R_R (progO_threads p)) (.ofR nest_h))) k rfl (by first | omega | (simp; done) | (simp; omega) | (unfold maxLen; omega) | (unfold maxLen; simp; done) | (unfold maxLen; simp; omega)) (fun ad4 => ?_)
        refine CaseB.mk (fun g => ?_) (fun g => by simp at g; omega)
        have q : ¬ (p.threads[k]).m.length ≤ 8 := by omega
        exact retw [] ⟨_, rfl, tno fun e => q (e.ops _ (hmem k hlt)).1, rfl⟩ trivial rfl trivial (fun _ => rfl)
    have hge2 : (p.threads[k]).m.length ≤ j := by simpa using g
    refine stop_idx encOpSH tabOk rfl rfl rfl rfl rfl ⟨rfl, rfl⟩ (rdVia 0 rfl (.trans (.R_R (progO_threads p)) (.ofR nest_h))) k rfl (by first | omega | (simp; done) | (simp; omega) | (unfold maxLen; omega) | (unfold maxLen; simp; done) | (unfold maxLen; simp; omega)) (fun ad4 => ?_)
    refine CaseB.mk (fun g => ?_) (fun g => ?_)
    · have q : ¬ (p.threads[k]).m.length ≤ 8 := by simp at g; omega
      exact retw [] ⟨_, rfl, tno fun e => q (e.ops _ (hmem k hlt)).1, rfl⟩ trivial rfl trivial (fun _ => rfl)
    have n8 : (p.threads[k]).m.length ≤ 8 := by simp at g; omega
    refine ⟨⟨k + 1, by omega, hend (fun _ => hge2) n8⟩, ?_, by simp; omega⟩
    refine weak_mk [0] ?_ ?_ ?_ ?_ ?_ rfl rfl
    · repeat (first | exact trivial | refine ⟨⟨_, rfl, (by first | exact .of rfl | exact .lit rfl | exact .of (by first | ((exact congrArg (fun z => SV.v (Value.int .i64 z)) hw))) | exact .lit (by first | ((exact congrArg (fun z => SV.v (Value.int .i64 z)) hw)))), (by first | exact trivial | exact Nat.le_of_ble_eq_true rfl)⟩, ?_⟩)
    · repeat (first | exact trivial | refine ⟨⟨(by first | exact .head _ | exact .tail _ (.head _) | exact .tail _ (.tail _ (.head _)) | exact .tail _ (.tail _ (.tail _ (.head _))) | exact .tail _ (.tail _ (.tail _ (.tail _ (.head _)))) | exact .tail _ (.tail _ (.tail _ (.tail _ (.tail _ (.head _))))) | exact .tail _ (.tail _ (.tail _ (.tail _ (.tail _ (.tail _ (.head _)))))) | exact .tail _ (.tail _ (.tail _ (.tail _ (.tail _ (.tail _ (.tail _ (.head _))))))) | exact .tail _ (.tail _ (.tail _ (.tail _ (.tail _ (.tail _ (.tail _ (.tail _ (.head _)))))))) | exact .tail _ (.tail _ (.tail _ (.tail _ (.tail _ (.tail _ (.tail _ (.tail _ (.tail _ (.head _)))))))))), Nat.le_of_ble_eq_true rfl⟩, ?_⟩)
    · repeat (first | exact trivial | refine ⟨⟨_, rfl, (by first | exact .of rfl | exact .lit rfl | exact .of (by first | ((exact congrArg (fun z => SV.v (Value.int .i64 z)) hw))) | exact .lit (by first | ((exact congrArg (fun z => SV.v (Value.int .i64 z)) hw)))), (by first | exact trivial | exact Nat.le_of_ble_eq_true rfl)⟩, ?_⟩)
    · repeat (first | exact trivial | refine ⟨⟨_, rfl⟩, ?_⟩)
    · repeat (first | exact trivial | refine ⟨.inl ⟨_, rfl, (by first | rfl | ((exact congrArg (fun z => SV.v (Value.int .i64 z)) hw)))⟩, ?_⟩ | refine ⟨.inr ⟨Nat.le_of_ble_eq_true rfl, rfl, rfl, rfl, rfl⟩, ?_⟩)
  have hge : p.threads.length ≤ k := by simpa using g
  refine retw [] ⟨_, rfl, tyes ⟨w0, w1, w2, w3, by rw [hlen]; exact n1, by rw [hlen]; exact n4, fun t ht => ?_⟩, rfl⟩ trivial rfl trivial (fun _ => rfl)
  rw [List.take_of_length_le (by rw [hlen]; exact hge)] at hinv
  exact hinv t ht

end Go.Proofs.YtklclbcckjhdpaaGreat

namespace Go.Proofs.YtklclbcckjhdpaaGreat

open Go Go.Sx Go.RowKit

/-- What threads share fits a program, and is valid. -/
structure SharedOk (p : Prog) (s : State) : Prop where
  lsems : s.sems.length = p.sems.length
  lgroups : s.groups.length = p.groups.length
  lbarriers : s.barriers.length = p.barriers.length
  lchans : s.chans.length = p.rooms.length
  lonces : s.onces.length = 3
  sems : ∀ (i : Nat) x, s.sems[i]? = some x → SemOk x ∧ p.sems[i]? = some x.limit
  groups : ∀ x ∈ s.groups, GroupOk x
  barriers : ∀ (i : Nat) x, s.barriers[i]? = some x → BarrierOk x ∧ p.barriers[i]? = some x.parties
  chans : ∀ (i : Nat) x, s.chans[i]? = some x → x.valid = true ∧ p.rooms[i]? = some x.room
  onces : ∀ x ∈ s.onces, OnceOk x

theorem Fits.shared {p : Prog} {s : State} (h : Fits p s) : SharedOk p s := ⟨h.lsems, h.lgroups, h.lbarriers, h.lchans, h.lonces, h.sems, h.groups, h.barriers, h.chans, h.onces⟩

set_option maxHeartbeats 40000000 in
set_option maxRecDepth 100000 in
theorem shared_c (p : ProgH) (s : StateH) (w : World) (h : At w [fR (progO p), fR (stateO s)]) (ok : ProgOk p.pure) (hs : s.pure.small20) :
    Calls Tryz.prog 95 #[progV p, stateV s] w (Tells w (SharedOk p.pure s.pure)) := by
  obtain ⟨b0, b1, b2, b3, b4, b5, b6, b7⟩ := hs
  have mlen : ∀ {α β : Type} (f : α → β) (xs : List α), (xs.map f).length = xs.length := fun f xs => by simp
  have m0 : p.sems.length ≤ 3 := ok.sems.1
  have m1 : p.groups.length ≤ 3 := ok.groups.1
  have m2 : p.barriers.length ≤ 3 := ok.barriers.1
  have m3 : p.rooms.length ≤ 3 := ok.rooms.1
  refine calls2 Tryz.func95 rfl tabOk w _ rfl _ rfl _ h ⟨rfl, rfl, rfl, rfl, trivial⟩ _ _ (by decide) ?_
  refine CaseB.mk (fun g => ?_) (fun g => ?_)
  · have q : ¬ s.sems.length = p.sems.length := by simp at g; omega
    exact retw [] ⟨_, rfl, tno fun e => q (by have := e.lsems; simpa [StateH.pure, ProgH.pure] using this), rfl⟩ trivial rfl trivial (fun _ => rfl)
  have c2 : s.sems.length = p.sems.length := by simp at g; omega
  refine CaseB.mk (fun g => ?_) (fun g => ?_)
  · have q : ¬ s.onces.length = 3 := by simp at g; omega
    exact retw [] ⟨_, rfl, tno fun e => q (by have := e.lonces; simpa [StateH.pure, ProgH.pure] using this), rfl⟩ trivial rfl trivial (fun _ => rfl)
  have c3 : s.onces.length = 3 := by simp at g; omega
  refine CaseB.mk (fun g => ?_) (fun g => ?_)
  · have q : ¬ s.groups.length = p.groups.length := by simp at g; omega
    exact retw [] ⟨_, rfl, tno fun e => q (by have := e.lgroups; simpa [StateH.pure, ProgH.pure] using this), rfl⟩ trivial rfl trivial (fun _ => rfl)
  have c4 : s.groups.length = p.groups.length := by simp at g; omega
  refine CaseB.mk (fun g => ?_) (fun g => ?_)
  · have q : ¬ s.barriers.length = p.barriers.length := by simp at g; omega
    exact retw [] ⟨_, rfl, tno fun e => q (by have := e.lbarriers; simpa [StateH.pure, ProgH.pure] using this), rfl⟩ trivial rfl trivial (fun _ => rfl)
  have c5 : s.barriers.length = p.barriers.length := by simp at g; omega
  refine CaseB.mk (fun g => ?_) (fun g => ?_)
  · have q : ¬ s.chans.length = p.rooms.length := by simp at g; omega
    exact retw [] ⟨_, rfl, tno fun e => q (by have := e.lchans; simpa [StateH.pure, ProgH.pure] using this), rfl⟩ trivial rfl trivial (fun _ => rfl)
  have c6 : s.chans.length = p.rooms.length := by simp at g; omega
  refine LoopW.mk ⟨{ k : Nat // k ≤ s.sems.length ∧ ∀ (i : Nat) x, i < k → s.pure.sems[i]? = some x → SemOk x ∧ p.pure.sems[i]? = some x.limit },
    fun k => .mk [(2, .p 0 0), (3, .p 1 0), (5, .v (.int .i64 (k.1 : Int)))] 2 0 [(0, 46, 5), (1, 41, 9)] [((0, 0), .v (p.h0.val p.sems.length)), ((0, 1), .v (p.h1.val p.groups.length)), ((0, 2), .v (p.h2.val p.barriers.length)), ((0, 3), .v (p.h3.val p.rooms.length)), ((0, 4), .v (p.h4.val p.threads.length)), ((1, 0), .v (s.h0.val s.places.length)), ((1, 1), .v (s.h1.val s.status.length)), ((1, 2), .v (s.h2.val s.sems.length)), ((1, 3), .v (s.h3.val s.onces.length)), ((1, 4), .v (s.h4.val s.groups.length)), ((1, 5), .v (s.h5.val s.barriers.length)), ((1, 6), .v (s.h6.val s.chans.length)), ((1, 7), .v (s.h7.val s.said.length)), ((1, 8), .v (.int .i64 s.fault))] [fR (progO p), fR (stateO s)],
    fun k => s.sems.length - k.1, ⟨0, Nat.zero_le _, fun i x hi => by omega⟩, ?_, ?_⟩
  · refine weak_mk [0, 1] ?_ ?_ ?_ ?_ ?_ rfl rfl
    · repeat (first | exact trivial | refine ⟨⟨_, rfl, (by first | exact .of rfl | exact .lit rfl | exact .of (by first | (rfl)) | exact .lit (by first | (rfl))), (by first | exact trivial | exact Nat.le_of_ble_eq_true rfl | exact small1 rfl)⟩, ?_⟩)
    · repeat (first | exact trivial | refine ⟨⟨(by first | exact .head _ | exact .tail _ (.head _) | exact .tail _ (.tail _ (.head _)) | exact .tail _ (.tail _ (.tail _ (.head _))) | exact .tail _ (.tail _ (.tail _ (.tail _ (.head _)))) | exact .tail _ (.tail _ (.tail _ (.tail _ (.tail _ (.head _))))) | exact .tail _ (.tail _ (.tail _ (.tail _ (.tail _ (.tail _ (.head _)))))) | exact .tail _ (.tail _ (.tail _ (.tail _ (.tail _ (.tail _ (.tail _ (.head _))))))) | exact .tail _ (.tail _ (.tail _ (.tail _ (.tail _ (.tail _ (.tail _ (.tail _ (.head _)))))))) | exact .tail _ (.tail _ (.tail _ (.tail _ (.tail _ (.tail _ (.tail _ (.tail _ (.tail _ (.head _)))))))))), Nat.le_of_ble_eq_true rfl⟩, ?_⟩)
    · repeat (first | exact trivial | refine ⟨⟨_, rfl, (by first | exact .of rfl | exact .lit rfl | exact .of (by first | (rfl)) | exact .lit (by first | (rfl))), (by first | exact trivial | exact Nat.le_of_ble_eq_true rfl | exact small1 rfl)⟩, ?_⟩)
    · repeat (first | exact trivial | refine ⟨⟨_, rfl⟩, ?_⟩)
    · repeat (first | exact trivial | refine ⟨.inl ⟨_, rfl, (by first | rfl | (rfl))⟩, ?_⟩ | refine ⟨.inr ⟨Nat.le_of_ble_eq_true rfl, rfl, rfl, rfl, rfl⟩, ?_⟩)
  rintro ⟨k, hk, hinv⟩
  refine CaseB.mk (fun g => ?_) (fun g => ?_)
  · have hlt : k < s.sems.length := by simpa using g
    have hw := e_succ k _ hlt (by omega)
    have hat : s.pure.sems[k]? = some (s.sems[k]).m := by simp [StateH.pure, hlt]
    have hsm := (allS_map b2).2 _ (List.getElem_mem hlt)
    unfold Sem.small20 at hsm
    have hlp : k < p.sems.length := by omega
    have hpat : p.pure.sems[k]? = some p.sems[k] := by simp [ProgH.pure, hlp]
    refine draw_start tabOk (by kernel_rfl) (by kernel_rfl) (by kernel_rfl) 200 [((0, 0), .v (p.h0.val p.sems.length)), ((1, 2), .v (s.h2.val s.sems.length))] [0, 1] [_, _] ⟨⟨_, rfl, rfl, (by first | exact trivial | exact Nat.le_of_ble_eq_true rfl)⟩, ⟨_, rfl, rfl, (by first | exact trivial | exact Nat.le_of_ble_eq_true rfl)⟩, trivial⟩ ⟨⟨_, rfl⟩, ⟨_, rfl⟩, trivial⟩ ⟨rfl, rfl, trivial⟩ rfl ?_
    refine d_idx (ti := tiOf tab) encSemH tabOk rfl rfl rfl rfl rfl ⟨rfl, rfl⟩ (rdVia 1 rfl (.trans (.R_R (stateO_sems s)) (.ofR nest_h))) k rfl (by first | omega | (simp; done) | (simp; omega) | (unfold maxLen; omega) | (unfold maxLen; simp; done) | (unfold maxLen; simp; omega)) (fun ad => ?_)
    refine d_call _ cl159 rfl rfl rfl rfl ⟨rfl, rfl⟩ (fun A w hW => semValidS_c _ _ w ⟨hW.get 1 rfl (.trans (.R_R (stateO_sems s)) (.ofR (semsO_0 _ _ k hlt))), trivial⟩ (by omega)) ?_
    rintro v L ⟨bb, rfl, hbb, rfl⟩
    refine CaseB.mk (fun g => ?_) (fun g => ?_)
    · exact retw [] ⟨_, rfl, tno fun e => (by rw [hbb.2 ((e.sems k _ hat).1)] at g; cases g), rfl⟩ trivial rfl trivial (fun _ => rfl)
    have q1 := hbb.1 (by simpa using g)
    refine d_idx (ti := tiOf tab) encSemH tabOk rfl rfl rfl rfl rfl ⟨rfl, rfl⟩ (rdVia 1 rfl (.trans (.R_R (stateO_sems s)) (.ofR nest_h))) k rfl (by first | omega | (simp; done) | (simp; omega) | (unfold maxLen; omega) | (unfold maxLen; simp; done) | (unfold maxLen; simp; omega)) (fun ad1 => ?_)
    refine d_idx (ti := tiOf tab) encInt tabOk rfl rfl rfl rfl rfl ⟨rfl, rfl⟩ (rdVia 0 rfl (.ofR (progO_sems p))) k rfl (by first | omega | (simp; done) | (simp; omega) | (unfold maxLen; omega) | (unfold maxLen; simp; done) | (unfold maxLen; simp; omega)) (fun ad2 => ?_)
    refine CaseB.mk (fun g => ?_) (fun g => ?_)
    · have q : ¬ (s.sems[k]).m.limit = p.sems[k] := by simpa using g
      exact retw [] ⟨_, rfl, tno fun e => q (by have := (e.sems k _ hat).2; rw [hpat] at this; injection this with this; exact this.symm), rfl⟩ trivial rfl trivial (fun _ => rfl)
    have q2 : (s.sems[k]).m.limit = p.sems[k] := by simpa using g
    refine ⟨⟨k + 1, by omega, fun i x hi hx => ?_⟩, ?_, by simp only; omega⟩
    · by_cases e : i < k
      · exact hinv i x e hx
      · obtain rfl : i = k := by omega
        rw [hat] at hx
        injection hx with hx
        subst hx
        exact ⟨q1, by rw [hpat, q2]⟩
    · refine weak_mk [0, 1] ?_ ?_ ?_ ?_ ?_ rfl rfl
      · repeat (first | exact trivial | refine ⟨⟨_, rfl, (by first | exact .of rfl | exact .lit rfl | exact .of (by first | ((exact congrArg (fun z => SV.v (Value.int .i64 z)) hw))) | exact .lit (by first | ((exact congrArg (fun z => SV.v (Value.int .i64 z)) hw)))), (by first | exact trivial | exact Nat.le_of_ble_eq_true rfl | exact small1 rfl)⟩, ?_⟩)
      · repeat (first | exact trivial | refine ⟨⟨(by first | exact .head _ | exact .tail _ (.head _) | exact .tail _ (.tail _ (.head _)) | exact .tail _ (.tail _ (.tail _ (.head _))) | exact .tail _ (.tail _ (.tail _ (.tail _ (.head _)))) | exact .tail _ (.tail _ (.tail _ (.tail _ (.tail _ (.head _))))) | exact .tail _ (.tail _ (.tail _ (.tail _ (.tail _ (.tail _ (.head _)))))) | exact .tail _ (.tail _ (.tail _ (.tail _ (.tail _ (.tail _ (.tail _ (.head _))))))) | exact .tail _ (.tail _ (.tail _ (.tail _ (.tail _ (.tail _ (.tail _ (.tail _ (.head _)))))))) | exact .tail _ (.tail _ (.tail _ (.tail _ (.tail _ (.tail _ (.tail _ (.tail _ (.tail _ (.head _)))))))))), Nat.le_of_ble_eq_true rfl⟩, ?_⟩)
      · repeat (first | exact trivial | refine ⟨⟨_, rfl, (by first | exact .of rfl | exact .lit rfl | exact .of (by first | ((exact congrArg (fun z => SV.v (Value.int .i64 z)) hw))) | exact .lit (by first | ((exact congrArg (fun z => SV.v (Value.int .i64 z)) hw)))), (by first | exact trivial | exact Nat.le_of_ble_eq_true rfl | exact small1 rfl)⟩, ?_⟩)
      · repeat (first | exact trivial | refine ⟨⟨_, rfl⟩, ?_⟩)
      · repeat (first | exact trivial | refine ⟨.inl ⟨_, rfl, (by first | rfl | ((exact congrArg (fun z => SV.v (Value.int .i64 z)) hw)))⟩, ?_⟩ | refine ⟨.inr ⟨Nat.le_of_ble_eq_true rfl, rfl, rfl, rfl, rfl⟩, ?_⟩)
  have hge : s.sems.length ≤ k := by simpa using g
  have vsems : ∀ (i : Nat) x, s.pure.sems[i]? = some x → SemOk x ∧ p.pure.sems[i]? = some x.limit := fun i x hx => hinv i x (by have := (List.getElem?_eq_some_iff.1 hx).1; have e : s.pure.sems.length = s.sems.length := mlen _ _; omega) hx
  refine LoopW.mk ⟨{ k : Nat // k ≤ s.onces.length ∧ ∀ (i : Nat) x, i < k → s.pure.onces[i]? = some x → OnceOk x },
    fun k => .mk [(2, .p 0 0), (3, .p 1 0), (6, .v (.int .i64 (k.1 : Int)))] 2 0 [(0, 46, 5), (1, 41, 9)] [((0, 0), .v (p.h0.val p.sems.length)), ((0, 1), .v (p.h1.val p.groups.length)), ((0, 2), .v (p.h2.val p.barriers.length)), ((0, 3), .v (p.h3.val p.rooms.length)), ((0, 4), .v (p.h4.val p.threads.length)), ((1, 0), .v (s.h0.val s.places.length)), ((1, 1), .v (s.h1.val s.status.length)), ((1, 2), .v (s.h2.val s.sems.length)), ((1, 3), .v (s.h3.val s.onces.length)), ((1, 4), .v (s.h4.val s.groups.length)), ((1, 5), .v (s.h5.val s.barriers.length)), ((1, 6), .v (s.h6.val s.chans.length)), ((1, 7), .v (s.h7.val s.said.length)), ((1, 8), .v (.int .i64 s.fault))] [fR (progO p), fR (stateO s)],
    fun k => s.onces.length - k.1, ⟨0, Nat.zero_le _, fun i x hi => by omega⟩, ?_, ?_⟩
  · refine weak_mk [0, 1] ?_ ?_ ?_ ?_ ?_ rfl rfl
    · repeat (first | exact trivial | refine ⟨⟨_, rfl, (by first | exact .of rfl | exact .lit rfl | exact .of (by first | (rfl)) | exact .lit (by first | (rfl))), (by first | exact trivial | exact Nat.le_of_ble_eq_true rfl | exact small1 rfl)⟩, ?_⟩)
    · repeat (first | exact trivial | refine ⟨⟨(by first | exact .head _ | exact .tail _ (.head _) | exact .tail _ (.tail _ (.head _)) | exact .tail _ (.tail _ (.tail _ (.head _))) | exact .tail _ (.tail _ (.tail _ (.tail _ (.head _)))) | exact .tail _ (.tail _ (.tail _ (.tail _ (.tail _ (.head _))))) | exact .tail _ (.tail _ (.tail _ (.tail _ (.tail _ (.tail _ (.head _)))))) | exact .tail _ (.tail _ (.tail _ (.tail _ (.tail _ (.tail _ (.tail _ (.head _))))))) | exact .tail _ (.tail _ (.tail _ (.tail _ (.tail _ (.tail _ (.tail _ (.tail _ (.head _)))))))) | exact .tail _ (.tail _ (.tail _ (.tail _ (.tail _ (.tail _ (.tail _ (.tail _ (.tail _ (.head _)))))))))), Nat.le_of_ble_eq_true rfl⟩, ?_⟩)
    · repeat (first | exact trivial | refine ⟨⟨_, rfl, (by first | exact .of rfl | exact .lit rfl | exact .of (by first | (rfl)) | exact .lit (by first | (rfl))), (by first | exact trivial | exact Nat.le_of_ble_eq_true rfl | exact small1 rfl)⟩, ?_⟩)
    · repeat (first | exact trivial | refine ⟨⟨_, rfl⟩, ?_⟩)
    · repeat (first | exact trivial | refine ⟨.inl ⟨_, rfl, (by first | rfl | (rfl))⟩, ?_⟩ | refine ⟨.inr ⟨Nat.le_of_ble_eq_true rfl, rfl, rfl, rfl, rfl⟩, ?_⟩)
  rintro ⟨k, hk, hinv⟩
  refine CaseB.mk (fun g => ?_) (fun g => ?_)
  · have hlt : k < s.onces.length := by simpa using g
    have hw := e_succ k _ hlt (by omega)
    have hat : s.pure.onces[k]? = some (s.onces[k]).m := by simp [StateH.pure, hlt]
    have hsm := (allS_map b3).2 _ (List.getElem_mem hlt)
    unfold Once.small20 at hsm
    refine stop_idx encOnceH tabOk rfl rfl rfl rfl rfl ⟨rfl, rfl⟩ (rdVia 1 rfl (.trans (.R_R (stateO_onces s)) (.ofR nest_h))) k rfl (by first | omega | (simp; done) | (simp; omega) | (unfold maxLen; omega) | (unfold maxLen; simp; done) | (unfold maxLen; simp; omega)) (fun ad => ?_)
    refine stop_call _ cl160 rfl rfl rfl rfl ⟨rfl, rfl⟩ (fun A w hW => onceValidS_c _ _ w ⟨hW.get 1 rfl (.trans (.R_R (stateO_onces s)) (.ofR (oncesO_0 _ _ k hlt))), trivial⟩ (by omega)) ?_
    rintro v L ⟨bb, rfl, hbb, rfl⟩
    refine CaseB.mk (fun g => ?_) (fun g => ?_)
    · exact retw [] ⟨_, rfl, tno fun e => (by rw [hbb.2 (e.onces _ (List.mem_of_getElem? hat))] at g; cases g), rfl⟩ trivial rfl trivial (fun _ => rfl)
    have q1 := hbb.1 (by simpa using g)
    refine ⟨⟨k + 1, by omega, fun i x hi hx => ?_⟩, ?_, by simp only; omega⟩
    · by_cases e : i < k
      · exact hinv i x e hx
      · obtain rfl : i = k := by omega
        rw [hat] at hx
        injection hx with hx
        subst hx
        exact q1
    · refine weak_mk [0, 1] ?_ ?_ ?_ ?_ ?_ rfl rfl
      · repeat (first | exact trivial | refine ⟨⟨_, rfl, (by first | exact .of rfl | exact .lit rfl | exact .of (by first | ((exact congrArg (fun z => SV.v (Value.int .i64 z)) hw))) | exact .lit (by first | ((exact congrArg (fun z => SV.v (Value.int .i64 z)) hw)))), (by first | exact trivial | exact Nat.le_of_ble_eq_true rfl | exact small1 rfl)⟩, ?_⟩)
      · repeat (first | exact trivial | refine ⟨⟨(by first | exact .head _ | exact .tail _ (.head _) | exact .tail _ (.tail _ (.head _)) | exact .tail _ (.tail _ (.tail _ (.head _))) | exact .tail _ (.tail _ (.tail _ (.tail _ (.head _)))) | exact .tail _ (.tail _ (.tail _ (.tail _ (.tail _ (.head _))))) | exact .tail _ (.tail _ (.tail _ (.tail _ (.tail _ (.tail _ (.head _)))))) | exact .tail _ (.tail _ (.tail _ (.tail _ (.tail _ (.tail _ (.tail _ (.head _))))))) | exact .tail _ (.tail _ (.tail _ (.tail _ (.tail _ (.tail _ (.tail _ (.tail _ (.head _)))))))) | exact .tail _ (.tail _ (.tail _ (.tail _ (.tail _ (.tail _ (.tail _ (.tail _ (.tail _ (.head _)))))))))), Nat.le_of_ble_eq_true rfl⟩, ?_⟩)
      · repeat (first | exact trivial | refine ⟨⟨_, rfl, (by first | exact .of rfl | exact .lit rfl | exact .of (by first | ((exact congrArg (fun z => SV.v (Value.int .i64 z)) hw))) | exact .lit (by first | ((exact congrArg (fun z => SV.v (Value.int .i64 z)) hw)))), (by first | exact trivial | exact Nat.le_of_ble_eq_true rfl | exact small1 rfl)⟩, ?_⟩)
      · repeat (first | exact trivial | refine ⟨⟨_, rfl⟩, ?_⟩)
      · repeat (first | exact trivial | refine ⟨.inl ⟨_, rfl, (by first | rfl | ((exact congrArg (fun z => SV.v (Value.int .i64 z)) hw)))⟩, ?_⟩ | refine ⟨.inr ⟨Nat.le_of_ble_eq_true rfl, rfl, rfl, rfl, rfl⟩, ?_⟩)
  have hge : s.onces.length ≤ k := by simpa using g
  have vonces : ∀ (i : Nat) x, s.pure.onces[i]? = some x → OnceOk x := fun i x hx => hinv i x (by have := (List.getElem?_eq_some_iff.1 hx).1; have e : s.pure.onces.length = s.onces.length := mlen _ _; omega) hx
  refine LoopW.mk ⟨{ k : Nat // k ≤ s.groups.length ∧ ∀ (i : Nat) x, i < k → s.pure.groups[i]? = some x → GroupOk x },
    fun k => .mk [(2, .p 0 0), (3, .p 1 0), (7, .v (.int .i64 (k.1 : Int)))] 2 0 [(0, 46, 5), (1, 41, 9)] [((0, 0), .v (p.h0.val p.sems.length)), ((0, 1), .v (p.h1.val p.groups.length)), ((0, 2), .v (p.h2.val p.barriers.length)), ((0, 3), .v (p.h3.val p.rooms.length)), ((0, 4), .v (p.h4.val p.threads.length)), ((1, 0), .v (s.h0.val s.places.length)), ((1, 1), .v (s.h1.val s.status.length)), ((1, 2), .v (s.h2.val s.sems.length)), ((1, 3), .v (s.h3.val s.onces.length)), ((1, 4), .v (s.h4.val s.groups.length)), ((1, 5), .v (s.h5.val s.barriers.length)), ((1, 6), .v (s.h6.val s.chans.length)), ((1, 7), .v (s.h7.val s.said.length)), ((1, 8), .v (.int .i64 s.fault))] [fR (progO p), fR (stateO s)],
    fun k => s.groups.length - k.1, ⟨0, Nat.zero_le _, fun i x hi => by omega⟩, ?_, ?_⟩
  · refine weak_mk [0, 1] ?_ ?_ ?_ ?_ ?_ rfl rfl
    · repeat (first | exact trivial | refine ⟨⟨_, rfl, (by first | exact .of rfl | exact .lit rfl | exact .of (by first | (rfl)) | exact .lit (by first | (rfl))), (by first | exact trivial | exact Nat.le_of_ble_eq_true rfl | exact small1 rfl)⟩, ?_⟩)
    · repeat (first | exact trivial | refine ⟨⟨(by first | exact .head _ | exact .tail _ (.head _) | exact .tail _ (.tail _ (.head _)) | exact .tail _ (.tail _ (.tail _ (.head _))) | exact .tail _ (.tail _ (.tail _ (.tail _ (.head _)))) | exact .tail _ (.tail _ (.tail _ (.tail _ (.tail _ (.head _))))) | exact .tail _ (.tail _ (.tail _ (.tail _ (.tail _ (.tail _ (.head _)))))) | exact .tail _ (.tail _ (.tail _ (.tail _ (.tail _ (.tail _ (.tail _ (.head _))))))) | exact .tail _ (.tail _ (.tail _ (.tail _ (.tail _ (.tail _ (.tail _ (.tail _ (.head _)))))))) | exact .tail _ (.tail _ (.tail _ (.tail _ (.tail _ (.tail _ (.tail _ (.tail _ (.tail _ (.head _)))))))))), Nat.le_of_ble_eq_true rfl⟩, ?_⟩)
    · repeat (first | exact trivial | refine ⟨⟨_, rfl, (by first | exact .of rfl | exact .lit rfl | exact .of (by first | (rfl)) | exact .lit (by first | (rfl))), (by first | exact trivial | exact Nat.le_of_ble_eq_true rfl | exact small1 rfl)⟩, ?_⟩)
    · repeat (first | exact trivial | refine ⟨⟨_, rfl⟩, ?_⟩)
    · repeat (first | exact trivial | refine ⟨.inl ⟨_, rfl, (by first | rfl | (rfl))⟩, ?_⟩ | refine ⟨.inr ⟨Nat.le_of_ble_eq_true rfl, rfl, rfl, rfl, rfl⟩, ?_⟩)
  rintro ⟨k, hk, hinv⟩
  refine CaseB.mk (fun g => ?_) (fun g => ?_)
  · have hlt : k < s.groups.length := by simpa using g
    have hw := e_succ k _ hlt (by omega)
    have hat : s.pure.groups[k]? = some (s.groups[k]).m := by simp [StateH.pure, hlt]
    have hsm := (allS_map b4).2 _ (List.getElem_mem hlt)
    unfold Group.small20 at hsm
    refine stop_idx encGroupH tabOk rfl rfl rfl rfl rfl ⟨rfl, rfl⟩ (rdVia 1 rfl (.trans (.R_R (stateO_groups s)) (.ofR nest_h))) k rfl (by first | omega | (simp; done) | (simp; omega) | (unfold maxLen; omega) | (unfold maxLen; simp; done) | (unfold maxLen; simp; omega)) (fun ad => ?_)
    refine stop_call _ cl161 rfl rfl rfl rfl ⟨rfl, rfl⟩ (fun A w hW => groupValidS_c _ _ w ⟨hW.get 1 rfl (.trans (.R_R (stateO_groups s)) (.ofR (groupsO_0 _ _ k hlt))), trivial⟩ (by omega)) ?_
    rintro v L ⟨bb, rfl, hbb, rfl⟩
    refine CaseB.mk (fun g => ?_) (fun g => ?_)
    · exact retw [] ⟨_, rfl, tno fun e => (by rw [hbb.2 (e.groups _ (List.mem_of_getElem? hat))] at g; cases g), rfl⟩ trivial rfl trivial (fun _ => rfl)
    have q1 := hbb.1 (by simpa using g)
    refine ⟨⟨k + 1, by omega, fun i x hi hx => ?_⟩, ?_, by simp only; omega⟩
    · by_cases e : i < k
      · exact hinv i x e hx
      · obtain rfl : i = k := by omega
        rw [hat] at hx
        injection hx with hx
        subst hx
        exact q1
    · refine weak_mk [0, 1] ?_ ?_ ?_ ?_ ?_ rfl rfl
      · repeat (first | exact trivial | refine ⟨⟨_, rfl, (by first | exact .of rfl | exact .lit rfl | exact .of (by first | ((exact congrArg (fun z => SV.v (Value.int .i64 z)) hw))) | exact .lit (by first | ((exact congrArg (fun z => SV.v (Value.int .i64 z)) hw)))), (by first | exact trivial | exact Nat.le_of_ble_eq_true rfl | exact small1 rfl)⟩, ?_⟩)
      · repeat (first | exact trivial | refine ⟨⟨(by first | exact .head _ | exact .tail _ (.head _) | exact .tail _ (.tail _ (.head _)) | exact .tail _ (.tail _ (.tail _ (.head _))) | exact .tail _ (.tail _ (.tail _ (.tail _ (.head _)))) | exact .tail _ (.tail _ (.tail _ (.tail _ (.tail _ (.head _))))) | exact .tail _ (.tail _ (.tail _ (.tail _ (.tail _ (.tail _ (.head _)))))) | exact .tail _ (.tail _ (.tail _ (.tail _ (.tail _ (.tail _ (.tail _ (.head _))))))) | exact .tail _ (.tail _ (.tail _ (.tail _ (.tail _ (.tail _ (.tail _ (.tail _ (.head _)))))))) | exact .tail _ (.tail _ (.tail _ (.tail _ (.tail _ (.tail _ (.tail _ (.tail _ (.tail _ (.head _)))))))))), Nat.le_of_ble_eq_true rfl⟩, ?_⟩)
      · repeat (first | exact trivial | refine ⟨⟨_, rfl, (by first | exact .of rfl | exact .lit rfl | exact .of (by first | ((exact congrArg (fun z => SV.v (Value.int .i64 z)) hw))) | exact .lit (by first | ((exact congrArg (fun z => SV.v (Value.int .i64 z)) hw)))), (by first | exact trivial | exact Nat.le_of_ble_eq_true rfl | exact small1 rfl)⟩, ?_⟩)
      · repeat (first | exact trivial | refine ⟨⟨_, rfl⟩, ?_⟩)
      · repeat (first | exact trivial | refine ⟨.inl ⟨_, rfl, (by first | rfl | ((exact congrArg (fun z => SV.v (Value.int .i64 z)) hw)))⟩, ?_⟩ | refine ⟨.inr ⟨Nat.le_of_ble_eq_true rfl, rfl, rfl, rfl, rfl⟩, ?_⟩)
  have hge : s.groups.length ≤ k := by simpa using g
  have vgroups : ∀ (i : Nat) x, s.pure.groups[i]? = some x → GroupOk x := fun i x hx => hinv i x (by have := (List.getElem?_eq_some_iff.1 hx).1; have e : s.pure.groups.length = s.groups.length := mlen _ _; omega) hx
  refine LoopW.mk ⟨{ k : Nat // k ≤ s.barriers.length ∧ ∀ (i : Nat) x, i < k → s.pure.barriers[i]? = some x → BarrierOk x ∧ p.pure.barriers[i]? = some x.parties },
    fun k => .mk [(2, .p 0 0), (3, .p 1 0), (8, .v (.int .i64 (k.1 : Int)))] 2 0 [(0, 46, 5), (1, 41, 9)] [((0, 0), .v (p.h0.val p.sems.length)), ((0, 1), .v (p.h1.val p.groups.length)), ((0, 2), .v (p.h2.val p.barriers.length)), ((0, 3), .v (p.h3.val p.rooms.length)), ((0, 4), .v (p.h4.val p.threads.length)), ((1, 0), .v (s.h0.val s.places.length)), ((1, 1), .v (s.h1.val s.status.length)), ((1, 2), .v (s.h2.val s.sems.length)), ((1, 3), .v (s.h3.val s.onces.length)), ((1, 4), .v (s.h4.val s.groups.length)), ((1, 5), .v (s.h5.val s.barriers.length)), ((1, 6), .v (s.h6.val s.chans.length)), ((1, 7), .v (s.h7.val s.said.length)), ((1, 8), .v (.int .i64 s.fault))] [fR (progO p), fR (stateO s)],
    fun k => s.barriers.length - k.1, ⟨0, Nat.zero_le _, fun i x hi => by omega⟩, ?_, ?_⟩
  · refine weak_mk [0, 1] ?_ ?_ ?_ ?_ ?_ rfl rfl
    · repeat (first | exact trivial | refine ⟨⟨_, rfl, (by first | exact .of rfl | exact .lit rfl | exact .of (by first | (rfl)) | exact .lit (by first | (rfl))), (by first | exact trivial | exact Nat.le_of_ble_eq_true rfl | exact small1 rfl)⟩, ?_⟩)
    · repeat (first | exact trivial | refine ⟨⟨(by first | exact .head _ | exact .tail _ (.head _) | exact .tail _ (.tail _ (.head _)) | exact .tail _ (.tail _ (.tail _ (.head _))) | exact .tail _ (.tail _ (.tail _ (.tail _ (.head _)))) | exact .tail _ (.tail _ (.tail _ (.tail _ (.tail _ (.head _))))) | exact .tail _ (.tail _ (.tail _ (.tail _ (.tail _ (.tail _ (.head _)))))) | exact .tail _ (.tail _ (.tail _ (.tail _ (.tail _ (.tail _ (.tail _ (.head _))))))) | exact .tail _ (.tail _ (.tail _ (.tail _ (.tail _ (.tail _ (.tail _ (.tail _ (.head _)))))))) | exact .tail _ (.tail _ (.tail _ (.tail _ (.tail _ (.tail _ (.tail _ (.tail _ (.tail _ (.head _)))))))))), Nat.le_of_ble_eq_true rfl⟩, ?_⟩)
    · repeat (first | exact trivial | refine ⟨⟨_, rfl, (by first | exact .of rfl | exact .lit rfl | exact .of (by first | (rfl)) | exact .lit (by first | (rfl))), (by first | exact trivial | exact Nat.le_of_ble_eq_true rfl | exact small1 rfl)⟩, ?_⟩)
    · repeat (first | exact trivial | refine ⟨⟨_, rfl⟩, ?_⟩)
    · repeat (first | exact trivial | refine ⟨.inl ⟨_, rfl, (by first | rfl | (rfl))⟩, ?_⟩ | refine ⟨.inr ⟨Nat.le_of_ble_eq_true rfl, rfl, rfl, rfl, rfl⟩, ?_⟩)
  rintro ⟨k, hk, hinv⟩
  refine CaseB.mk (fun g => ?_) (fun g => ?_)
  · have hlt : k < s.barriers.length := by simpa using g
    have hw := e_succ k _ hlt (by omega)
    have hat : s.pure.barriers[k]? = some (s.barriers[k]).m := by simp [StateH.pure, hlt]
    have hsm := (allS_map b5).2 _ (List.getElem_mem hlt)
    unfold Barrier.small20 at hsm
    have hlp : k < p.barriers.length := by omega
    have hpat : p.pure.barriers[k]? = some p.barriers[k] := by simp [ProgH.pure, hlp]
    refine draw_start tabOk (by kernel_rfl) (by kernel_rfl) (by kernel_rfl) 200 [((0, 2), .v (p.h2.val p.barriers.length)), ((1, 5), .v (s.h5.val s.barriers.length))] [0, 1] [_, _] ⟨⟨_, rfl, rfl, (by first | exact trivial | exact Nat.le_of_ble_eq_true rfl)⟩, ⟨_, rfl, rfl, (by first | exact trivial | exact Nat.le_of_ble_eq_true rfl)⟩, trivial⟩ ⟨⟨_, rfl⟩, ⟨_, rfl⟩, trivial⟩ ⟨rfl, rfl, trivial⟩ rfl ?_
    refine d_idx (ti := tiOf tab) encBarrierH tabOk rfl rfl rfl rfl rfl ⟨rfl, rfl⟩ (rdVia 1 rfl (.trans (.R_R (stateO_barriers s)) (.ofR nest_h))) k rfl (by first | omega | (simp; done) | (simp; omega) | (unfold maxLen; omega) | (unfold maxLen; simp; done) | (unfold maxLen; simp; omega)) (fun ad => ?_)
    refine d_call _ cl162 rfl rfl rfl rfl ⟨rfl, rfl⟩ (fun A w hW => barrierValidS_c _ _ w ⟨hW.get 1 rfl (.trans (.R_R (stateO_barriers s)) (.ofR (barriersO_0 _ _ k hlt))), trivial⟩ (by omega)) ?_
    rintro v L ⟨bb, rfl, hbb, rfl⟩
    refine CaseB.mk (fun g => ?_) (fun g => ?_)
    · exact retw [] ⟨_, rfl, tno fun e => (by rw [hbb.2 ((e.barriers k _ hat).1)] at g; cases g), rfl⟩ trivial rfl trivial (fun _ => rfl)
    have q1 := hbb.1 (by simpa using g)
    refine d_idx (ti := tiOf tab) encBarrierH tabOk rfl rfl rfl rfl rfl ⟨rfl, rfl⟩ (rdVia 1 rfl (.trans (.R_R (stateO_barriers s)) (.ofR nest_h))) k rfl (by first | omega | (simp; done) | (simp; omega) | (unfold maxLen; omega) | (unfold maxLen; simp; done) | (unfold maxLen; simp; omega)) (fun ad1 => ?_)
    refine d_idx (ti := tiOf tab) encInt tabOk rfl rfl rfl rfl rfl ⟨rfl, rfl⟩ (rdVia 0 rfl (.ofR (progO_barriers p))) k rfl (by first | omega | (simp; done) | (simp; omega) | (unfold maxLen; omega) | (unfold maxLen; simp; done) | (unfold maxLen; simp; omega)) (fun ad2 => ?_)
    refine CaseB.mk (fun g => ?_) (fun g => ?_)
    · have q : ¬ (s.barriers[k]).m.parties = p.barriers[k] := by simpa using g
      exact retw [] ⟨_, rfl, tno fun e => q (by have := (e.barriers k _ hat).2; rw [hpat] at this; injection this with this; exact this.symm), rfl⟩ trivial rfl trivial (fun _ => rfl)
    have q2 : (s.barriers[k]).m.parties = p.barriers[k] := by simpa using g
    refine ⟨⟨k + 1, by omega, fun i x hi hx => ?_⟩, ?_, by simp only; omega⟩
    · by_cases e : i < k
      · exact hinv i x e hx
      · obtain rfl : i = k := by omega
        rw [hat] at hx
        injection hx with hx
        subst hx
        exact ⟨q1, by rw [hpat, q2]⟩
    · refine weak_mk [0, 1] ?_ ?_ ?_ ?_ ?_ rfl rfl
      · repeat (first | exact trivial | refine ⟨⟨_, rfl, (by first | exact .of rfl | exact .lit rfl | exact .of (by first | ((exact congrArg (fun z => SV.v (Value.int .i64 z)) hw))) | exact .lit (by first | ((exact congrArg (fun z => SV.v (Value.int .i64 z)) hw)))), (by first | exact trivial | exact Nat.le_of_ble_eq_true rfl | exact small1 rfl)⟩, ?_⟩)
      · repeat (first | exact trivial | refine ⟨⟨(by first | exact .head _ | exact .tail _ (.head _) | exact .tail _ (.tail _ (.head _)) | exact .tail _ (.tail _ (.tail _ (.head _))) | exact .tail _ (.tail _ (.tail _ (.tail _ (.head _)))) | exact .tail _ (.tail _ (.tail _ (.tail _ (.tail _ (.head _))))) | exact .tail _ (.tail _ (.tail _ (.tail _ (.tail _ (.tail _ (.head _)))))) | exact .tail _ (.tail _ (.tail _ (.tail _ (.tail _ (.tail _ (.tail _ (.head _))))))) | exact .tail _ (.tail _ (.tail _ (.tail _ (.tail _ (.tail _ (.tail _ (.tail _ (.head _)))))))) | exact .tail _ (.tail _ (.tail _ (.tail _ (.tail _ (.tail _ (.tail _ (.tail _ (.tail _ (.head _)))))))))), Nat.le_of_ble_eq_true rfl⟩, ?_⟩)
      · repeat (first | exact trivial | refine ⟨⟨_, rfl, (by first | exact .of rfl | exact .lit rfl | exact .of (by first | ((exact congrArg (fun z => SV.v (Value.int .i64 z)) hw))) | exact .lit (by first | ((exact congrArg (fun z => SV.v (Value.int .i64 z)) hw)))), (by first | exact trivial | exact Nat.le_of_ble_eq_true rfl | exact small1 rfl)⟩, ?_⟩)
      · repeat (first | exact trivial | refine ⟨⟨_, rfl⟩, ?_⟩)
      · repeat (first | exact trivial | refine ⟨.inl ⟨_, rfl, (by first | rfl | ((exact congrArg (fun z => SV.v (Value.int .i64 z)) hw)))⟩, ?_⟩ | refine ⟨.inr ⟨Nat.le_of_ble_eq_true rfl, rfl, rfl, rfl, rfl⟩, ?_⟩)
  have hge : s.barriers.length ≤ k := by simpa using g
  have vbarriers : ∀ (i : Nat) x, s.pure.barriers[i]? = some x → BarrierOk x ∧ p.pure.barriers[i]? = some x.parties := fun i x hx => hinv i x (by have := (List.getElem?_eq_some_iff.1 hx).1; have e : s.pure.barriers.length = s.barriers.length := mlen _ _; omega) hx
  refine LoopW.mk ⟨{ k : Nat // k ≤ s.chans.length ∧ ∀ (i : Nat) x, i < k → s.pure.chans[i]? = some x → x.valid = true ∧ p.pure.rooms[i]? = some x.room },
    fun k => .mk [(2, .p 0 0), (3, .p 1 0), (9, .v (.int .i64 (k.1 : Int)))] 2 0 [(0, 46, 5), (1, 41, 9)] [((0, 0), .v (p.h0.val p.sems.length)), ((0, 1), .v (p.h1.val p.groups.length)), ((0, 2), .v (p.h2.val p.barriers.length)), ((0, 3), .v (p.h3.val p.rooms.length)), ((0, 4), .v (p.h4.val p.threads.length)), ((1, 0), .v (s.h0.val s.places.length)), ((1, 1), .v (s.h1.val s.status.length)), ((1, 2), .v (s.h2.val s.sems.length)), ((1, 3), .v (s.h3.val s.onces.length)), ((1, 4), .v (s.h4.val s.groups.length)), ((1, 5), .v (s.h5.val s.barriers.length)), ((1, 6), .v (s.h6.val s.chans.length)), ((1, 7), .v (s.h7.val s.said.length)), ((1, 8), .v (.int .i64 s.fault))] [fR (progO p), fR (stateO s)],
    fun k => s.chans.length - k.1, ⟨0, Nat.zero_le _, fun i x hi => by omega⟩, ?_, ?_⟩
  · refine weak_mk [0, 1] ?_ ?_ ?_ ?_ ?_ rfl rfl
    · repeat (first | exact trivial | refine ⟨⟨_, rfl, (by first | exact .of rfl | exact .lit rfl | exact .of (by first | (rfl)) | exact .lit (by first | (rfl))), (by first | exact trivial | exact Nat.le_of_ble_eq_true rfl | exact small1 rfl)⟩, ?_⟩)
    · repeat (first | exact trivial | refine ⟨⟨(by first | exact .head _ | exact .tail _ (.head _) | exact .tail _ (.tail _ (.head _)) | exact .tail _ (.tail _ (.tail _ (.head _))) | exact .tail _ (.tail _ (.tail _ (.tail _ (.head _)))) | exact .tail _ (.tail _ (.tail _ (.tail _ (.tail _ (.head _))))) | exact .tail _ (.tail _ (.tail _ (.tail _ (.tail _ (.tail _ (.head _)))))) | exact .tail _ (.tail _ (.tail _ (.tail _ (.tail _ (.tail _ (.tail _ (.head _))))))) | exact .tail _ (.tail _ (.tail _ (.tail _ (.tail _ (.tail _ (.tail _ (.tail _ (.head _)))))))) | exact .tail _ (.tail _ (.tail _ (.tail _ (.tail _ (.tail _ (.tail _ (.tail _ (.tail _ (.head _)))))))))), Nat.le_of_ble_eq_true rfl⟩, ?_⟩)
    · repeat (first | exact trivial | refine ⟨⟨_, rfl, (by first | exact .of rfl | exact .lit rfl | exact .of (by first | (rfl)) | exact .lit (by first | (rfl))), (by first | exact trivial | exact Nat.le_of_ble_eq_true rfl | exact small1 rfl)⟩, ?_⟩)
    · repeat (first | exact trivial | refine ⟨⟨_, rfl⟩, ?_⟩)
    · repeat (first | exact trivial | refine ⟨.inl ⟨_, rfl, (by first | rfl | (rfl))⟩, ?_⟩ | refine ⟨.inr ⟨Nat.le_of_ble_eq_true rfl, rfl, rfl, rfl, rfl⟩, ?_⟩)
  rintro ⟨k, hk, hinv⟩
  refine CaseB.mk (fun g => ?_) (fun g => ?_)
  · have hlt : k < s.chans.length := by simpa using g
    have hw := e_succ k _ hlt (by omega)
    have hat : s.pure.chans[k]? = some (s.chans[k]).m := by simp [StateH.pure, hlt]
    have hsm := (allS_map b6).2 _ (List.getElem_mem hlt)
    unfold Chan.small20 at hsm
    have hlp : k < p.rooms.length := by omega
    have hpat : p.pure.rooms[k]? = some p.rooms[k] := by simp [ProgH.pure, hlp]
    refine draw_start tabOk (by kernel_rfl) (by kernel_rfl) (by kernel_rfl) 200 [((0, 3), .v (p.h3.val p.rooms.length)), ((1, 6), .v (s.h6.val s.chans.length))] [0, 1] [_, _] ⟨⟨_, rfl, rfl, (by first | exact trivial | exact Nat.le_of_ble_eq_true rfl)⟩, ⟨_, rfl, rfl, (by first | exact trivial | exact Nat.le_of_ble_eq_true rfl)⟩, trivial⟩ ⟨⟨_, rfl⟩, ⟨_, rfl⟩, trivial⟩ ⟨rfl, rfl, trivial⟩ rfl ?_
    refine d_idx (ti := tiOf tab) encChanH tabOk rfl rfl rfl rfl rfl ⟨rfl, rfl⟩ (rdVia 1 rfl (.trans (.R_R (stateO_chans s)) (.ofR nest_h))) k rfl (by first | omega | (simp; done) | (simp; omega) | (unfold maxLen; omega) | (unfold maxLen; simp; done) | (unfold maxLen; simp; omega)) (fun ad => ?_)
    refine d_call _ cl163 rfl rfl rfl rfl ⟨rfl, rfl⟩ (fun A w hW => validS_c _ _ _ _ w ⟨hW.get 1 rfl (.trans (.R_R (stateO_chans s)) (.ofR (chansO_0 _ _ k hlt))), hW.get 1 rfl (.trans (.R_R (stateO_chans s)) (.ofR (chansO_1 _ _ k hlt))), hW.get 1 rfl (.trans (.R_R (stateO_chans s)) (.ofR (chansO_2 _ _ k hlt))), trivial⟩ ⟨by omega, by omega, by omega⟩) ?_
    rintro v L ⟨rfl, rfl⟩
    refine CaseB.mk (fun g => ?_) (fun g => ?_)
    · exact retw [] ⟨_, rfl, tno fun e => (by rw [(e.chans k _ hat).1] at g; cases g), rfl⟩ trivial rfl trivial (fun _ => rfl)
    have q1 : (s.chans[k]).m.valid = true := by simpa using g
    refine d_idx (ti := tiOf tab) encChanH tabOk rfl rfl rfl rfl rfl ⟨rfl, rfl⟩ (rdVia 1 rfl (.trans (.R_R (stateO_chans s)) (.ofR nest_h))) k rfl (by first | omega | (simp; done) | (simp; omega) | (unfold maxLen; omega) | (unfold maxLen; simp; done) | (unfold maxLen; simp; omega)) (fun ad1 => ?_)
    refine d_idx (ti := tiOf tab) encInt tabOk rfl rfl rfl rfl rfl ⟨rfl, rfl⟩ (rdVia 0 rfl (.ofR (progO_rooms p))) k rfl (by first | omega | (simp; done) | (simp; omega) | (unfold maxLen; omega) | (unfold maxLen; simp; done) | (unfold maxLen; simp; omega)) (fun ad2 => ?_)
    refine CaseB.mk (fun g => ?_) (fun g => ?_)
    · have q : ¬ (s.chans[k]).m.room = p.rooms[k] := by simpa using g
      exact retw [] ⟨_, rfl, tno fun e => q (by have := (e.chans k _ hat).2; rw [hpat] at this; injection this with this; exact this.symm), rfl⟩ trivial rfl trivial (fun _ => rfl)
    have q2 : (s.chans[k]).m.room = p.rooms[k] := by simpa using g
    refine ⟨⟨k + 1, by omega, fun i x hi hx => ?_⟩, ?_, by simp only; omega⟩
    · by_cases e : i < k
      · exact hinv i x e hx
      · obtain rfl : i = k := by omega
        rw [hat] at hx
        injection hx with hx
        subst hx
        exact ⟨q1, by rw [hpat, q2]⟩
    · refine weak_mk [0, 1] ?_ ?_ ?_ ?_ ?_ rfl rfl
      · repeat (first | exact trivial | refine ⟨⟨_, rfl, (by first | exact .of rfl | exact .lit rfl | exact .of (by first | ((exact congrArg (fun z => SV.v (Value.int .i64 z)) hw))) | exact .lit (by first | ((exact congrArg (fun z => SV.v (Value.int .i64 z)) hw)))), (by first | exact trivial | exact Nat.le_of_ble_eq_true rfl | exact small1 rfl)⟩, ?_⟩)
      · repeat (first | exact trivial | refine ⟨⟨(by first | exact .head _ | exact .tail _ (.head _) | exact .tail _ (.tail _ (.head _)) | exact .tail _ (.tail _ (.tail _ (.head _))) | exact .tail _ (.tail _ (.tail _ (.tail _ (.head _)))) | exact .tail _ (.tail _ (.tail _ (.tail _ (.tail _ (.head _))))) | exact .tail _ (.tail _ (.tail _ (.tail _ (.tail _ (.tail _ (.head _)))))) | exact .tail _ (.tail _ (.tail _ (.tail _ (.tail _ (.tail _ (.tail _ (.head _))))))) | exact .tail _ (.tail _ (.tail _ (.tail _ (.tail _ (.tail _ (.tail _ (.tail _ (.head _)))))))) | exact .tail _ (.tail _ (.tail _ (.tail _ (.tail _ (.tail _ (.tail _ (.tail _ (.tail _ (.head _)))))))))), Nat.le_of_ble_eq_true rfl⟩, ?_⟩)
      · repeat (first | exact trivial | refine ⟨⟨_, rfl, (by first | exact .of rfl | exact .lit rfl | exact .of (by first | ((exact congrArg (fun z => SV.v (Value.int .i64 z)) hw))) | exact .lit (by first | ((exact congrArg (fun z => SV.v (Value.int .i64 z)) hw)))), (by first | exact trivial | exact Nat.le_of_ble_eq_true rfl | exact small1 rfl)⟩, ?_⟩)
      · repeat (first | exact trivial | refine ⟨⟨_, rfl⟩, ?_⟩)
      · repeat (first | exact trivial | refine ⟨.inl ⟨_, rfl, (by first | rfl | ((exact congrArg (fun z => SV.v (Value.int .i64 z)) hw)))⟩, ?_⟩ | refine ⟨.inr ⟨Nat.le_of_ble_eq_true rfl, rfl, rfl, rfl, rfl⟩, ?_⟩)
  have hge : s.chans.length ≤ k := by simpa using g
  have vchans : ∀ (i : Nat) x, s.pure.chans[i]? = some x → x.valid = true ∧ p.pure.rooms[i]? = some x.room := fun i x hx => hinv i x (by have := (List.getElem?_eq_some_iff.1 hx).1; have e : s.pure.chans.length = s.chans.length := mlen _ _; omega) hx
  have mm : ∀ {α : Type} {xs : List α} {q : α → Prop}, (∀ (i : Nat) x, xs[i]? = some x → q x) → ∀ x ∈ xs, q x := fun h x hx => by
    obtain ⟨i, hi⟩ := List.getElem?_of_mem hx
    exact h i x hi
  have n := fun {α β γ δ : Type} (f : α → β) (g : γ → δ) {xs : List α} {ys : List γ} (e : xs.length = ys.length) => (show (xs.map f).length = (ys.map g).length by simp [e])
  exact retw [] ⟨_, rfl, tyes ⟨by simpa [StateH.pure, ProgH.pure] using c2, by simpa [StateH.pure, ProgH.pure] using c4, by simpa [StateH.pure, ProgH.pure] using c5, by simpa [StateH.pure, ProgH.pure] using c6, by simpa [StateH.pure, ProgH.pure] using c3, vsems, mm vgroups, vbarriers, vchans, mm vonces⟩, rfl⟩ trivial rfl trivial (fun _ => rfl)

end Go.Proofs.YtklclbcckjhdpaaGreat

namespace Go.Proofs.YtklclbcckjhdpaaGreat

open Go Go.Sx Go.RowKit

theorem atM_get (xs : List Int) (t : Int) (h : 0 ≤ atM xs t) : xs[(atM xs t).toNat]? = some t := by
  induction xs with
  | nil => simp [atM] at h
  | cons x r ih =>
    simp only [atM] at h ⊢
    by_cases e : x = t
    · simp [e]
    · simp only [e, if_false] at h ⊢
      by_cases e2 : atM r t < 0
      · rw [if_pos e2] at h; omega
      · rw [if_neg e2] at h ⊢
        have e3 : (atM r t + 1).toNat = (atM r t).toNat + 1 := by omega
        rw [e3, List.getElem?_cons_succ]
        exact ih (by omega)

theorem at_in {α : Type} {f : α → Int} {l : List α} {t a : Int} (hd : (l.map f).Nodup) (ha : a = atM (l.map f) t) (x : α) : (x ∈ l ∧ f x = t) ↔ (l[a.toNat]? = some x ∧ 0 ≤ a) := by
  subst ha
  constructor
  · rintro ⟨hm, hx⟩
    have h0 : 0 ≤ atM (l.map f) t := (atM_mem _ _).2 (hx ▸ List.mem_map_of_mem hm)
    have h1 := atM_get _ _ h0
    obtain ⟨i, hi, rfl⟩ := List.getElem_of_mem hm
    have h2 : (l.map f)[i]? = some t := by simp [hi, hx]
    have h3 := (List.getElem?_eq_some_iff.1 h1).1
    have := (List.getElem?_inj h3 hd).1 (h1.trans h2.symm)
    rw [this]
    exact ⟨List.getElem?_eq_getElem hi, h0⟩
  · rintro ⟨h1, h0⟩
    refine ⟨List.mem_of_getElem? h1, ?_⟩
    have h2 := atM_get _ _ h0
    rw [List.getElem?_map, h1] at h2
    simpa using h2

set_option maxRecDepth 100000 in
theorem l1Find_c (i : Sl) (xs : List Waiter) (t : Int) (w : World) (h : At w [slo i cWaiter 2 xs]) (hb : xs.length ≤ 1048576) :
    Calls Tryz.prog 182 #[i.val xs.length, .int .i64 t] w (Ret w fun v L => ∃ a : Int, v = .int .i64 a ∧ a = atM (xs.map (·.t)) t ∧ L = []) := by
  refine calls2 Tryz.func182 rfl tabOk w _ rfl _ rfl _ h ⟨rfl, rfl, trivial⟩ _ _ (by decide) ?_
  have hlen : (xs.map (·.t)).length = xs.length := by simp
  refine LoopW.mk ⟨{ k : Nat // k ≤ xs.length ∧ t ∉ (xs.map (·.t)).take k },
    fun p => .mk [(0, .v (i.val xs.length)), (1, .v (.int .i64 t)), (5, .v (.int .i64 p.1))] 0 0 [] [] [slo i cWaiter 2 xs],
    fun p => xs.length - p.1, ⟨0, Nat.zero_le _, by simp⟩, ?_, ?_⟩
  · refine weak_mk [0] ?_ ?_ ?_ ?_ ?_ rfl rfl
    · repeat (first | exact trivial | refine ⟨⟨_, rfl, (by first | exact .of rfl | exact .lit rfl | exact .of (by first | (rfl)) | exact .lit (by first | (rfl))), (by first | exact trivial | exact Nat.le_of_ble_eq_true rfl | exact small1 rfl)⟩, ?_⟩)
    · repeat (first | exact trivial | refine ⟨⟨(by first | exact .head _ | exact .tail _ (.head _) | exact .tail _ (.tail _ (.head _)) | exact .tail _ (.tail _ (.tail _ (.head _))) | exact .tail _ (.tail _ (.tail _ (.tail _ (.head _)))) | exact .tail _ (.tail _ (.tail _ (.tail _ (.tail _ (.head _))))) | exact .tail _ (.tail _ (.tail _ (.tail _ (.tail _ (.tail _ (.head _)))))) | exact .tail _ (.tail _ (.tail _ (.tail _ (.tail _ (.tail _ (.tail _ (.head _))))))) | exact .tail _ (.tail _ (.tail _ (.tail _ (.tail _ (.tail _ (.tail _ (.tail _ (.head _)))))))) | exact .tail _ (.tail _ (.tail _ (.tail _ (.tail _ (.tail _ (.tail _ (.tail _ (.tail _ (.head _)))))))))), Nat.le_of_ble_eq_true rfl⟩, ?_⟩)
    · repeat (first | exact trivial | refine ⟨⟨_, rfl, (by first | exact .of rfl | exact .lit rfl | exact .of (by first | (rfl)) | exact .lit (by first | (rfl))), (by first | exact trivial | exact Nat.le_of_ble_eq_true rfl | exact small1 rfl)⟩, ?_⟩)
    · repeat (first | exact trivial | refine ⟨⟨_, rfl⟩, ?_⟩)
    · repeat (first | exact trivial | refine ⟨.inl ⟨_, rfl, (by first | rfl | (rfl))⟩, ?_⟩ | refine ⟨.inr ⟨Nat.le_of_ble_eq_true rfl, rfl, rfl, rfl, rfl⟩, ?_⟩)
  · rintro ⟨k, hk, he⟩
    refine CaseB.mk (fun h => ?_) (fun h => ?_)
    · have hlt : k < xs.length := by simpa using h
      have hlt2 : k < (xs.map (·.t)).length := by rw [hlen]; exact hlt
      refine stop_idx encWaiter tabOk rfl rfl rfl rfl rfl ⟨rfl, rfl⟩ (by first | exact rdAt 0 rfl | exact rdOwnAt 0 rfl | exact rdAt 1 rfl | exact rdOwnAt 1 rfl | exact rdAt 2 rfl | exact rdOwnAt 2 rfl | exact rdAt 3 rfl | exact rdOwnAt 3 rfl | exact rdAt 4 rfl | exact rdOwnAt 4 rfl | exact rdAt 5 rfl | exact rdOwnAt 5 rfl | exact rdAt 6 rfl | exact rdOwnAt 6 rfl | exact rdAt 7 rfl | exact rdOwnAt 7 rfl | exact rdAt 8 rfl | exact rdOwnAt 8 rfl | exact rdAt 9 rfl | exact rdOwnAt 9 rfl | exact rdAt 10 rfl | exact rdOwnAt 10 rfl | exact rdAt 11 rfl | exact rdOwnAt 11 rfl | exact rdAt 12 rfl | exact rdOwnAt 12 rfl | exact rdAt 13 rfl | exact rdOwnAt 13 rfl | exact rdAt 14 rfl | exact rdOwnAt 14 rfl | exact rdAt 15 rfl | exact rdOwnAt 15 rfl | exact rdAt 16 rfl | exact rdOwnAt 16 rfl | exact rdAt 17 rfl | exact rdOwnAt 17 rfl | exact rdAt 18 rfl | exact rdOwnAt 18 rfl | exact rdAt 19 rfl | exact rdOwnAt 19 rfl | exact rdAt 20 rfl | exact rdOwnAt 20 rfl | exact rdAt 21 rfl | exact rdOwnAt 21 rfl | exact rdAt 22 rfl | exact rdOwnAt 22 rfl | exact rdAt 23 rfl | exact rdOwnAt 23 rfl) k rfl (by first | omega | (simp; done) | (simp; omega) | (unfold maxLen; omega) | (unfold maxLen; simp; done) | (unfold maxLen; simp; omega)) (fun ad => ?_)
      refine CaseB.mk (fun h => ?_) (fun h => ?_)
      · have heq : (xs[k]).t = t := by simpa using h
        exact retw [] ⟨_, rfl, (atM_at hlt2 he (by simpa using heq)).symm, rfl⟩ trivial rfl trivial (fun _ => rfl)
      · have hne : (xs[k]).t ≠ t := by simpa using h
        have hw := wrapN k _ hlt (by omega)
        refine ⟨⟨k + 1, by omega, not_mem_take_succ hlt2 he (by simpa using hne)⟩, ?_, by simp; omega⟩
        refine weak_mk [0] ?_ ?_ ?_ ?_ ?_ rfl rfl
        · repeat (first | exact trivial | refine ⟨⟨_, rfl, (by first | exact .of rfl | exact .lit rfl | exact .of (by first | ((exact congrArg (fun z => SV.v (Value.int .i64 z)) hw))) | exact .lit (by first | ((exact congrArg (fun z => SV.v (Value.int .i64 z)) hw)))), (by first | exact trivial | exact Nat.le_of_ble_eq_true rfl | exact small1 rfl)⟩, ?_⟩)
        · repeat (first | exact trivial | refine ⟨⟨(by first | exact .head _ | exact .tail _ (.head _) | exact .tail _ (.tail _ (.head _)) | exact .tail _ (.tail _ (.tail _ (.head _))) | exact .tail _ (.tail _ (.tail _ (.tail _ (.head _)))) | exact .tail _ (.tail _ (.tail _ (.tail _ (.tail _ (.head _))))) | exact .tail _ (.tail _ (.tail _ (.tail _ (.tail _ (.tail _ (.head _)))))) | exact .tail _ (.tail _ (.tail _ (.tail _ (.tail _ (.tail _ (.tail _ (.head _))))))) | exact .tail _ (.tail _ (.tail _ (.tail _ (.tail _ (.tail _ (.tail _ (.tail _ (.head _)))))))) | exact .tail _ (.tail _ (.tail _ (.tail _ (.tail _ (.tail _ (.tail _ (.tail _ (.tail _ (.head _)))))))))), Nat.le_of_ble_eq_true rfl⟩, ?_⟩)
        · repeat (first | exact trivial | refine ⟨⟨_, rfl, (by first | exact .of rfl | exact .lit rfl | exact .of (by first | ((exact congrArg (fun z => SV.v (Value.int .i64 z)) hw))) | exact .lit (by first | ((exact congrArg (fun z => SV.v (Value.int .i64 z)) hw)))), (by first | exact trivial | exact Nat.le_of_ble_eq_true rfl | exact small1 rfl)⟩, ?_⟩)
        · repeat (first | exact trivial | refine ⟨⟨_, rfl⟩, ?_⟩)
        · repeat (first | exact trivial | refine ⟨.inl ⟨_, rfl, (by first | rfl | ((exact congrArg (fun z => SV.v (Value.int .i64 z)) hw)))⟩, ?_⟩ | refine ⟨.inr ⟨Nat.le_of_ble_eq_true rfl, rfl, rfl, rfl, rfl⟩, ?_⟩)
    · have hge : xs.length ≤ k := by simpa using h
      rw [List.take_of_length_le (by omega)] at he
      exact retw [] ⟨_, rfl, (atM_none he).symm, rfl⟩ trivial rfl trivial (fun _ => rfl)

/-- Does a thread wait for what its operation is on? -/
def WaitsOn (s : State) (o : Op) (t : Int) : Prop :=
  if o.kind = 2 then ∃ x, s.sems[o.on.toNat]? = some x ∧ ⟨t, o.arg⟩ ∈ x.queue
  else if o.kind = 4 then ∃ x, s.onces[o.on.toNat]? = some x ∧ t ∈ x.waits
  else if o.kind = 6 then ∃ x, s.groups[o.on.toNat]? = some x ∧ t ∈ x.waits
  else if o.kind = 7 then ∃ x, s.barriers[o.on.toNat]? = some x ∧ t ∈ x.waits
  else if o.kind = 8 then ∃ x, s.chans[o.on.toNat]? = some x ∧ ⟨t, o.arg⟩ ∈ x.senders
  else if o.kind = 9 then ∃ x, s.chans[o.on.toNat]? = some x ∧ t ∈ x.getters
  else False

theorem only {α : Type} {xs : List α} {n : Nat} {y : α} (h : xs[n]? = some y) {q : α → Prop} : (∃ x, xs[n]? = some x ∧ q x) ↔ q y :=
  ⟨fun ⟨x, hx, hq⟩ => by rw [h] at hx; injection hx with hx; exact hx ▸ hq, fun hq => ⟨y, h, hq⟩⟩

set_option maxHeartbeats 8000000 in
set_option maxRecDepth 100000 in
theorem waits_c (p : Prog) (s : StateH) (o : Op) (t : Int) (w : World) (h : At w [fR (stateO s)]) (hs : SharedOk p s.pure) (ho : OpOk p o) :
    Calls Tryz.prog 165 #[stateV s, .agg (cOp o).toArray, .int .i64 t] w (Tells w (WaitsOn s.pure o t)) := by
  obtain ⟨s1, s2, s3, s4, s5, s6, s7, s8, s9, s10⟩ := hs
  have mlen : ∀ {α β : Type} (f : α → β) (xs : List α), (xs.map f).length = xs.length := fun f xs => by simp
  have l2 : s.pure.sems.length = s.sems.length := mlen _ _
  have l3 : s.pure.onces.length = s.onces.length := mlen _ _
  have l4 : s.pure.groups.length = s.groups.length := mlen _ _
  have l5 : s.pure.barriers.length = s.barriers.length := mlen _ _
  have l6 : s.pure.chans.length = s.chans.length := mlen _ _
  refine calls3 Tryz.func165 rfl tabOk w _ rfl _ rfl _ h ⟨rfl, rfl, trivial⟩ _ _ _ (by decide) ?_
  refine CaseB.mk (fun g => ?_) (fun g2 => ?_)
  · have k2 : o.kind = 2 := by simpa using g
    obtain ⟨⟨o0, o1⟩, _⟩ := (opOk2 (.inl k2)).1 ho
    have hlt : o.on.toNat < s.sems.length := by omega
    have hat : s.pure.sems[o.on.toNat]? = some (s.sems[o.on.toNat]).m := by simp [StateH.pure, hlt]
    have hok := (s6 _ _ hat).1
    have hq := hok.q6
    refine stop_idx encSemH tabOk rfl rfl rfl rfl rfl ⟨rfl, rfl⟩ (rdVia 0 rfl (.trans (.R_R (stateO_sems s)) (.ofR nest_h))) o.on.toNat (by omega) (by first | omega | (simp; done) | (simp; omega) | (unfold maxLen; omega) | (unfold maxLen; simp; done) | (unfold maxLen; simp; omega)) (fun ad => ?_)
    refine stop_call _ cl182 rfl rfl rfl rfl ⟨rfl, rfl⟩ (fun A w hW => l1Find_c _ _ t w ⟨hW.get 0 rfl (.trans (.R_R (stateO_sems s)) (.ofR (semsO_0 _ _ _ hlt))), trivial⟩ (by omega)) ?_
    rintro v L ⟨a, rfl, ha, rfl⟩
    have hin := at_in (f := (·.t)) (by have := hok.dis; simp only [distinct, decide_eq_true_eq] at this; exact this.1) ha (⟨t, o.arg⟩ : Waiter)
    have hQ : WaitsOn s.pure o t ↔ ((s.sems[o.on.toNat]).m.queue[a.toNat]? = some ⟨t, o.arg⟩ ∧ 0 ≤ a) := by
      rw [← hin, WaitsOn, if_pos k2, only hat]; simp
    refine draw_start tabOk (by kernel_rfl) (by kernel_rfl) (by kernel_rfl) 200 [((0, 2), .v (s.h2.val s.sems.length)), ((1, 1), .v (.int .i64 o.on)), ((1, 2), .v (.int .i64 o.arg))] [0] [_] ⟨⟨_, rfl, rfl, (by first | exact trivial | exact Nat.le_of_ble_eq_true rfl)⟩, ⟨_, rfl, rfl, (by first | exact trivial | exact Nat.le_of_ble_eq_true rfl)⟩, ⟨_, rfl, rfl, (by first | exact trivial | exact Nat.le_of_ble_eq_true rfl)⟩, trivial⟩ ⟨⟨_, rfl⟩, ⟨_, rfl⟩, ⟨_, rfl⟩, trivial⟩ ⟨rfl, trivial⟩ rfl ?_
    refine CaseB.mk (fun g => ?_) (fun g => ?_)
    · have a0 : 0 ≤ a := by simpa using g
      have hg := atM_get _ t (ha ▸ a0)
      rw [← ha, List.getElem?_map] at hg
      have hl : a.toNat < (s.sems[o.on.toNat]).m.queue.length := by
        refine Classical.byContradiction fun n => ?_
        rw [List.getElem?_eq_none (by omega)] at hg; simp at hg
      rw [List.getElem?_eq_getElem hl] at hg
      have ht : ((s.sems[o.on.toNat]).m.queue[a.toNat]).t = t := by simpa using hg
      refine d_idx (ti := tiOf tab) encSemH tabOk rfl rfl rfl rfl rfl ⟨rfl, rfl⟩ (rdVia 0 rfl (.trans (.R_R (stateO_sems s)) (.ofR nest_h))) o.on.toNat (by omega) (by first | omega | (simp; done) | (simp; omega) | (unfold maxLen; omega) | (unfold maxLen; simp; done) | (unfold maxLen; simp; omega)) (fun ad1 => ?_)
      refine d_idx (ti := tiOf tab) encWaiter tabOk rfl rfl rfl rfl rfl ⟨rfl, rfl⟩ (rdVia 0 rfl (.trans (.R_R (stateO_sems s)) (.ofR (semsO_0 _ _ _ hlt)))) a.toNat (by omega) (by first | omega | (simp; done) | (simp; omega) | (unfold maxLen; omega) | (unfold maxLen; simp; done) | (unfold maxLen; simp; omega)) (fun ad2 => ?_)
      refine retw [] ⟨_, rfl, ?_, rfl⟩ trivial rfl trivial (fun _ => rfl)
      rw [hQ, List.getElem?_eq_getElem hl, beq_iff_eq]
      constructor
      · intro e
        refine ⟨?_, a0⟩
        rw [← ht, ← e]
      · rintro ⟨e, _⟩
        injection e with e
        rw [e]
    · have a0 : ¬ 0 ≤ a := by simpa using g
      exact retw [] ⟨_, rfl, tno fun e => a0 (hQ.1 e).2, rfl⟩ trivial rfl trivial (fun _ => rfl)
  have n2 : ¬ o.kind = 2 := by simpa using g2
  refine CaseB.mk (fun g => ?_) (fun g4 => ?_)
  · have k4 : o.kind = 4 := by simpa using g
    obtain ⟨o0, o1, _⟩ := (opOk4 k4).1 ho
    have hlt : o.on.toNat < s.onces.length := by omega
    have hat : s.pure.onces[o.on.toNat]? = some (s.onces[o.on.toNat]).m := by simp [StateH.pure, hlt]
    have hq := onceOk_len (s10 _ (List.mem_of_getElem? hat))
    have hQ : WaitsOn s.pure o t ↔ t ∈ (s.onces[o.on.toNat]).m.waits := by
      simp only [WaitsOn, k4]
      exact only hat
    refine stop_idx encOnceH tabOk rfl rfl rfl rfl rfl ⟨rfl, rfl⟩ (rdVia 0 rfl (.trans (.R_R (stateO_onces s)) (.ofR nest_h))) o.on.toNat (by omega) (by first | omega | (simp; done) | (simp; omega) | (unfold maxLen; omega) | (unfold maxLen; simp; done) | (unfold maxLen; simp; omega)) (fun ad => ?_)
    refine stop_call _ cl51 rfl rfl rfl rfl ⟨rfl, rfl⟩ (fun A w hW => l2At_c _ _ t w ⟨hW.get 0 rfl (.trans (.R_R (stateO_onces s)) (.ofR (oncesO_0 _ _ _ hlt))), trivial⟩ (by omega)) ?_
    rintro v L ⟨rfl, rfl⟩
    exact retw [] ⟨_, rfl, by rw [hQ, decide_eq_true_eq]; exact atM_mem _ _, rfl⟩ trivial rfl trivial (fun _ => rfl)
  have n4 : ¬ o.kind = 4 := by simpa using g4
  refine CaseB.mk (fun g => ?_) (fun g6 => ?_)
  · have k6 : o.kind = 6 := by simpa using g
    obtain ⟨⟨o0, o1⟩, _⟩ := (opOk6 k6).1 ho
    have hlt : o.on.toNat < s.groups.length := by omega
    have hat : s.pure.groups[o.on.toNat]? = some (s.groups[o.on.toNat]).m := by simp [StateH.pure, hlt]
    have hq := groupOk_len (s7 _ (List.mem_of_getElem? hat))
    have hQ : WaitsOn s.pure o t ↔ t ∈ (s.groups[o.on.toNat]).m.waits := by
      simp only [WaitsOn, k6]
      exact only hat
    refine stop_idx encGroupH tabOk rfl rfl rfl rfl rfl ⟨rfl, rfl⟩ (rdVia 0 rfl (.trans (.R_R (stateO_groups s)) (.ofR nest_h))) o.on.toNat (by omega) (by first | omega | (simp; done) | (simp; omega) | (unfold maxLen; omega) | (unfold maxLen; simp; done) | (unfold maxLen; simp; omega)) (fun ad => ?_)
    refine stop_call _ cl51 rfl rfl rfl rfl ⟨rfl, rfl⟩ (fun A w hW => l2At_c _ _ t w ⟨hW.get 0 rfl (.trans (.R_R (stateO_groups s)) (.ofR (groupsO_0 _ _ _ hlt))), trivial⟩ (by omega)) ?_
    rintro v L ⟨rfl, rfl⟩
    exact retw [] ⟨_, rfl, by rw [hQ, decide_eq_true_eq]; exact atM_mem _ _, rfl⟩ trivial rfl trivial (fun _ => rfl)
  have n6 : ¬ o.kind = 6 := by simpa using g6
  refine CaseB.mk (fun g => ?_) (fun g7 => ?_)
  · have k7 : o.kind = 7 := by simpa using g
    obtain ⟨⟨o0, o1⟩, _⟩ := (opOk7 k7).1 ho
    have hlt : o.on.toNat < s.barriers.length := by omega
    have hat : s.pure.barriers[o.on.toNat]? = some (s.barriers[o.on.toNat]).m := by simp [StateH.pure, hlt]
    have hq := barrierOk_len (s8 _ _ hat).1
    have hQ : WaitsOn s.pure o t ↔ t ∈ (s.barriers[o.on.toNat]).m.waits := by
      simp only [WaitsOn, k7]
      exact only hat
    refine stop_idx encBarrierH tabOk rfl rfl rfl rfl rfl ⟨rfl, rfl⟩ (rdVia 0 rfl (.trans (.R_R (stateO_barriers s)) (.ofR nest_h))) o.on.toNat (by omega) (by first | omega | (simp; done) | (simp; omega) | (unfold maxLen; omega) | (unfold maxLen; simp; done) | (unfold maxLen; simp; omega)) (fun ad => ?_)
    refine stop_call _ cl51 rfl rfl rfl rfl ⟨rfl, rfl⟩ (fun A w hW => l2At_c _ _ t w ⟨hW.get 0 rfl (.trans (.R_R (stateO_barriers s)) (.ofR (barriersO_0 _ _ _ hlt))), trivial⟩ (by omega)) ?_
    rintro v L ⟨rfl, rfl⟩
    exact retw [] ⟨_, rfl, by rw [hQ, decide_eq_true_eq]; exact atM_mem _ _, rfl⟩ trivial rfl trivial (fun _ => rfl)
  have n7 : ¬ o.kind = 7 := by simpa using g7
  refine CaseB.mk (fun g => ?_) (fun g8 => ?_)
  · have k8 : o.kind = 8 := by simpa using g
    obtain ⟨⟨o0, o1⟩, _⟩ := (opOk8 k8).1 ho
    have hlt : o.on.toNat < s.chans.length := by omega
    have hat : s.pure.chans[o.on.toNat]? = some (s.chans[o.on.toNat]).m := by simp [StateH.pure, hlt]
    have hok := (s9 _ _ hat).1
    have hq := chanOk_len hok
    have hdi : ((s.chans[o.on.toNat]).m.senders.map (·.t)).Nodup := by
      have hv : (s.chans[o.on.toNat]).m.Valid := by simpa [Chan.valid] using hok
      have hd := hv.di
      unfold distinct at hd
      have hd2 := of_decide_eq_true hd
      exact (List.nodup_append.1 hd2.1).1
    refine stop_idx encChanH tabOk rfl rfl rfl rfl rfl ⟨rfl, rfl⟩ (rdVia 0 rfl (.trans (.R_R (stateO_chans s)) (.ofR nest_h))) o.on.toNat (by omega) (by first | omega | (simp; done) | (simp; omega) | (unfold maxLen; omega) | (unfold maxLen; simp; done) | (unfold maxLen; simp; omega)) (fun ad => ?_)
    refine stop_call _ cl164 rfl rfl rfl rfl ⟨rfl, rfl⟩ (fun A w hW => l5Threads_c _ _ w ⟨hW.get 0 rfl (.trans (.R_R (stateO_chans s)) (.ofR (chansO_1 _ _ _ hlt))), trivial⟩ (by omega)) ?_
    rw [List.take_of_length_le (by omega)]
    rintro v L ⟨y, rfl, rfl⟩
    refine stop_call _ cl51 rfl rfl rfl rfl ⟨rfl, rfl⟩ (fun A w hW => l2At_c y _ t w ⟨hW.get 0 rfl .own, trivial⟩ (by simp; omega)) ?_
    rintro v L ⟨rfl, rfl⟩
    obtain ⟨a, ha⟩ : ∃ a, a = atM ((s.chans[o.on.toNat]).m.senders.map Letter.t) t := ⟨_, rfl⟩
    rw [← ha]
    have hin := at_in (f := Letter.t) hdi ha (⟨t, o.arg⟩ : Letter)
    have hQ : WaitsOn s.pure o t ↔ ((s.chans[o.on.toNat]).m.senders[a.toNat]? = some ⟨t, o.arg⟩ ∧ 0 ≤ a) := by
      rw [← hin]
      simp only [WaitsOn, k8]
      exact (only hat).trans (by simp)
    refine draw_start tabOk (by kernel_rfl) (by kernel_rfl) (by kernel_rfl) 200 [((0, 6), .v (s.h6.val s.chans.length)), ((1, 1), .v (.int .i64 o.on)), ((1, 2), .v (.int .i64 o.arg))] [1] [_] ⟨⟨_, rfl, rfl, (by first | exact trivial | exact Nat.le_of_ble_eq_true rfl)⟩, ⟨_, rfl, rfl, (by first | exact trivial | exact Nat.le_of_ble_eq_true rfl)⟩, ⟨_, rfl, rfl, (by first | exact trivial | exact Nat.le_of_ble_eq_true rfl)⟩, trivial⟩ ⟨⟨_, rfl⟩, ⟨_, rfl⟩, ⟨_, rfl⟩, trivial⟩ ⟨rfl, trivial⟩ rfl ?_
    refine CaseB.mk (fun g => ?_) (fun g => ?_)
    · have a0 : 0 ≤ a := by simpa using g
      have hg := atM_get _ t (ha ▸ a0)
      rw [← ha, List.getElem?_map] at hg
      have hl : a.toNat < (s.chans[o.on.toNat]).m.senders.length := by
        refine Classical.byContradiction fun n => ?_
        rw [List.getElem?_eq_none (by omega)] at hg; simp at hg
      rw [List.getElem?_eq_getElem hl] at hg
      have ht : ((s.chans[o.on.toNat]).m.senders[a.toNat]).t = t := by simpa using hg
      refine d_idx (ti := tiOf tab) encChanH tabOk rfl rfl rfl rfl rfl ⟨rfl, rfl⟩ (rdVia 0 rfl (.trans (.R_R (stateO_chans s)) (.ofR nest_h))) o.on.toNat (by omega) (by first | omega | (simp; done) | (simp; omega) | (unfold maxLen; omega) | (unfold maxLen; simp; done) | (unfold maxLen; simp; omega)) (fun ad1 => ?_)
      refine d_idx (ti := tiOf tab) encLet tabOk rfl rfl rfl rfl rfl ⟨rfl, rfl⟩ (rdVia 0 rfl (.trans (.R_R (stateO_chans s)) (.ofR (chansO_1 _ _ _ hlt)))) a.toNat (by omega) (by first | omega | (simp; done) | (simp; omega) | (unfold maxLen; omega) | (unfold maxLen; simp; done) | (unfold maxLen; simp; omega)) (fun ad2 => ?_)
      refine retw [] ⟨_, rfl, ?_, rfl⟩ trivial rfl trivial (fun _ => rfl)
      rw [hQ, List.getElem?_eq_getElem hl, beq_iff_eq]
      constructor
      · intro e
        refine ⟨?_, a0⟩
        rw [← ht, ← e]
      · rintro ⟨e, _⟩
        injection e with e
        rw [e]
    · have a0 : ¬ 0 ≤ a := by simpa using g
      exact retw [] ⟨_, rfl, tno fun e => a0 (hQ.1 e).2, rfl⟩ trivial rfl trivial (fun _ => rfl)
  have n8 : ¬ o.kind = 8 := by simpa using g8
  refine CaseB.mk (fun g => ?_) (fun g9 => ?_)
  · have k9 : o.kind = 9 := by simpa using g
    obtain ⟨⟨o0, o1⟩, _⟩ := (opOk9 (.inl k9)).1 ho
    have hlt : o.on.toNat < s.chans.length := by omega
    have hat : s.pure.chans[o.on.toNat]? = some (s.chans[o.on.toNat]).m := by simp [StateH.pure, hlt]
    have hq := chanOk_len (s9 _ _ hat).1
    have hQ : WaitsOn s.pure o t ↔ t ∈ (s.chans[o.on.toNat]).m.getters := by
      simp only [WaitsOn, k9]
      exact only hat
    refine stop_idx encChanH tabOk rfl rfl rfl rfl rfl ⟨rfl, rfl⟩ (rdVia 0 rfl (.trans (.R_R (stateO_chans s)) (.ofR nest_h))) o.on.toNat (by omega) (by first | omega | (simp; done) | (simp; omega) | (unfold maxLen; omega) | (unfold maxLen; simp; done) | (unfold maxLen; simp; omega)) (fun ad => ?_)
    refine stop_call _ cl51 rfl rfl rfl rfl ⟨rfl, rfl⟩ (fun A w hW => l2At_c _ _ t w ⟨hW.get 0 rfl (.trans (.R_R (stateO_chans s)) (.ofR (chansO_2 _ _ _ hlt))), trivial⟩ (by omega)) ?_
    rintro v L ⟨rfl, rfl⟩
    exact retw [] ⟨_, rfl, by rw [hQ, decide_eq_true_eq]; exact atM_mem _ _, rfl⟩ trivial rfl trivial (fun _ => rfl)
  have n9 : ¬ o.kind = 9 := by simpa using g9
  exact retw [] ⟨_, rfl, tno fun e => (by simp [WaitsOn, n2, n4, n6, n7, n8, n9] at e), rfl⟩ trivial rfl trivial (fun _ => rfl)

end Go.Proofs.YtklclbcckjhdpaaGreat
