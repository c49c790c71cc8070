/- Channels: which are valid; the reference's answer (II). -/
import Derived.Test.YtanakfeaifggoaaChh
namespace Go.Proofs.Ytanakfeaifggoaa
open Go Go.Sx Go.RowKit

set_option maxHeartbeats 2000000 in
set_option maxRecDepth 100000 in
theorem validS_c (m : Chan) (i s g : Sl) (w : World) (h : At w [slo i cInt 1 m.items, slo s cLet 2 m.senders, slo g cInt 1 m.getters]) (hb : m.small) :
    Calls Try.prog 23 #[chanV m i s g] w (Ret w fun v L => v = .bool m.valid ∧ L = []) := by
  obtain ⟨b1, b2, b3⟩ := hb
  have bT : m.threads.length ≤ 8589934592 := by simp [Chan.threads]; omega
  have hno : ∀ {P : Prop}, ¬ P → (m.Valid → P) → ∀ A, resV A [SV.lit false] = Value.bool m.valid := fun h1 h2 _ => Chan.invalid fun hv => h1 (h2 hv)
  refine calls1 Try.func23 rfl tabOk w _ rfl _ rfl _ h ⟨rfl, rfl, rfl, rfl, rfl, rfl, trivial⟩ _ (by decide) ?_
  refine CaseB.mk (fun h1 => ?_) (fun h1 => ?_)
  · exact retw [] ⟨rfl, rfl⟩ trivial rfl trivial (hno (by simp at h1; omega) Chan.Valid.r0)
  · have r0 : 0 ≤ m.room := by simp at h1; omega
    refine CaseB.mk (fun h2 => ?_) (fun h2 => ?_)
    · exact retw [] ⟨rfl, rfl⟩ trivial rfl trivial (hno (by simp at h2; omega) Chan.Valid.r1)
    · have r1 : m.room ≤ 4 := by simp at h2; omega
      refine CaseB.mk (fun h3 => ?_) (fun h3 => ?_)
      · exact retw [] ⟨rfl, rfl⟩ trivial rfl trivial (hno (by simp at h3; omega) Chan.Valid.it)
      · have it : (m.items.length : Int) ≤ m.room := by simp at h3; omega
        refine CaseB.mk (fun h4 => ?_) (fun h4 => ?_)
        · exact retw [] ⟨rfl, rfl⟩ trivial rfl trivial (hno (P := m.senders.length ≤ 6) (by simp at h4; omega) (fun hv => by have := distinct_len hv.di; simp [Chan.threads] at this; omega))
        refine CaseB.mk (fun h5 => ?_) (fun h5 => ?_)
        · exact retw [] ⟨rfl, rfl⟩ trivial rfl trivial (hno (P := m.getters.length ≤ 6) (by simp at h5; omega) (fun hv => by have := distinct_len hv.di; simp [Chan.threads] at this; omega))
        have e7 : m.senders.take 7 = m.senders := List.take_of_length_le (by simp at h4; omega)
        refine LoopW.mk ⟨{ k : Nat // k ≤ m.items.length ∧ ∀ x ∈ m.items.take k, isValue x = true },
          fun p => .mk [(1, .p 0 0), (3, .v (.int .i64 p.1))] 1 0 [(0, 26, 5)] [((0, 0), .v (.int .i64 m.room)), ((0, 1), .v (i.val m.items.length)), ((0, 2), .v (s.val m.senders.length)), ((0, 3), .v (g.val m.getters.length)), ((0, 4), .v (.bool m.closed))] [slo i cInt 1 m.items, slo s cLet 2 m.senders, slo g cInt 1 m.getters],
          fun p => m.items.length - p.1, ⟨0, Nat.zero_le _, by simp⟩, ?_, ?_⟩
        · refine weak_mk [0, 1, 2] ?_ ?_ ?_ ?_ ?_ rfl rfl
          · repeat (first | exact trivial | refine ⟨⟨_, rfl, (by first | exact .of rfl | exact .lit rfl | exact .of (by first | (rfl)) | exact .lit (by first | (rfl))), (by first | exact trivial | exact Nat.le_of_ble_eq_true rfl)⟩, ?_⟩)
          · repeat (first | exact trivial | refine ⟨⟨(by first | exact .head _ | exact .tail _ (.head _) | exact .tail _ (.tail _ (.head _)) | exact .tail _ (.tail _ (.tail _ (.head _))) | exact .tail _ (.tail _ (.tail _ (.tail _ (.head _)))) | exact .tail _ (.tail _ (.tail _ (.tail _ (.tail _ (.head _))))) | exact .tail _ (.tail _ (.tail _ (.tail _ (.tail _ (.tail _ (.head _)))))) | exact .tail _ (.tail _ (.tail _ (.tail _ (.tail _ (.tail _ (.tail _ (.head _))))))) | exact .tail _ (.tail _ (.tail _ (.tail _ (.tail _ (.tail _ (.tail _ (.tail _ (.head _)))))))) | exact .tail _ (.tail _ (.tail _ (.tail _ (.tail _ (.tail _ (.tail _ (.tail _ (.tail _ (.head _)))))))))), Nat.le_of_ble_eq_true rfl⟩, ?_⟩)
          · repeat (first | exact trivial | refine ⟨⟨_, rfl, (by first | exact .of rfl | exact .lit rfl | exact .of (by first | (rfl)) | exact .lit (by first | (rfl))), (by first | exact trivial | exact Nat.le_of_ble_eq_true rfl)⟩, ?_⟩)
          · repeat (first | exact trivial | refine ⟨⟨_, rfl⟩, ?_⟩)
          · repeat (first | exact trivial | refine ⟨.inl ⟨_, rfl, (by first | rfl | (rfl))⟩, ?_⟩ | refine ⟨.inr ⟨Nat.le_of_ble_eq_true rfl, rfl, rfl, rfl, rfl⟩, ?_⟩)
        · rintro ⟨k, hk, ha⟩
          refine CaseB.mk (fun h => ?_) (fun h => ?_)
          · have hlt : k < m.items.length := by simpa using h
            refine stop_idx encInt tabOk rfl rfl rfl rfl rfl ⟨rfl, rfl⟩ (by first | exact rdAt 0 rfl | exact rdOwnAt 0 rfl | exact rdAt 1 rfl | exact rdOwnAt 1 rfl | exact rdAt 2 rfl | exact rdOwnAt 2 rfl | exact rdAt 3 rfl | exact rdOwnAt 3 rfl | exact rdAt 4 rfl | exact rdOwnAt 4 rfl | exact rdAt 5 rfl | exact rdOwnAt 5 rfl | exact rdAt 6 rfl | exact rdOwnAt 6 rfl | exact rdAt 7 rfl | exact rdOwnAt 7 rfl | exact rdAt 8 rfl | exact rdOwnAt 8 rfl | exact rdAt 9 rfl | exact rdOwnAt 9 rfl | exact rdAt 10 rfl | exact rdOwnAt 10 rfl | exact rdAt 11 rfl | exact rdOwnAt 11 rfl | exact rdAt 12 rfl | exact rdOwnAt 12 rfl | exact rdAt 13 rfl | exact rdOwnAt 13 rfl | exact rdAt 14 rfl | exact rdOwnAt 14 rfl | exact rdAt 15 rfl | exact rdOwnAt 15 rfl | exact rdAt 16 rfl | exact rdOwnAt 16 rfl | exact rdAt 17 rfl | exact rdOwnAt 17 rfl | exact rdAt 18 rfl | exact rdOwnAt 18 rfl | exact rdAt 19 rfl | exact rdOwnAt 19 rfl | exact rdAt 20 rfl | exact rdOwnAt 20 rfl | exact rdAt 21 rfl | exact rdOwnAt 21 rfl | exact rdAt 22 rfl | exact rdOwnAt 22 rfl | exact rdAt 23 rfl | exact rdOwnAt 23 rfl) k rfl (by first | omega | (simp; done) | (simp; omega) | (unfold maxLen; omega) | (unfold maxLen; simp; done) | (unfold maxLen; simp; omega)) (fun ad => ?_)
            refine stop_call _ cl51 rfl rfl rfl rfl ⟨rfl, rfl⟩ (fun A w hW => l2Value_c _ w) ?_
            rintro v L ⟨rfl, rfl⟩
            refine CaseB.mk (fun h => ?_) (fun h => ?_)
            · exact retw [] ⟨rfl, rfl⟩ trivial rfl trivial (hno (by simpa using h) (fun hv => hv.iv _ (List.getElem_mem hlt)))
            · have hw := wrapN k _ hlt b1
              refine ⟨⟨k + 1, by omega, all_take_succ hlt ha (by simpa using h)⟩, ?_, by simp; omega⟩
              refine weak_mk [0, 1, 2] ?_ ?_ ?_ ?_ ?_ rfl rfl
              · repeat (first | exact trivial | refine ⟨⟨_, rfl, (by first | exact .of rfl | exact .lit rfl | exact .of (by first | ((exact congrArg (fun z => SV.v (Value.int .i64 z)) hw))) | exact .lit (by first | ((exact congrArg (fun z => SV.v (Value.int .i64 z)) hw)))), (by first | exact trivial | exact Nat.le_of_ble_eq_true rfl)⟩, ?_⟩)
              · repeat (first | exact trivial | refine ⟨⟨(by first | exact .head _ | exact .tail _ (.head _) | exact .tail _ (.tail _ (.head _)) | exact .tail _ (.tail _ (.tail _ (.head _))) | exact .tail _ (.tail _ (.tail _ (.tail _ (.head _)))) | exact .tail _ (.tail _ (.tail _ (.tail _ (.tail _ (.head _))))) | exact .tail _ (.tail _ (.tail _ (.tail _ (.tail _ (.tail _ (.head _)))))) | exact .tail _ (.tail _ (.tail _ (.tail _ (.tail _ (.tail _ (.tail _ (.head _))))))) | exact .tail _ (.tail _ (.tail _ (.tail _ (.tail _ (.tail _ (.tail _ (.tail _ (.head _)))))))) | exact .tail _ (.tail _ (.tail _ (.tail _ (.tail _ (.tail _ (.tail _ (.tail _ (.tail _ (.head _)))))))))), Nat.le_of_ble_eq_true rfl⟩, ?_⟩)
              · repeat (first | exact trivial | refine ⟨⟨_, rfl, (by first | exact .of rfl | exact .lit rfl | exact .of (by first | ((exact congrArg (fun z => SV.v (Value.int .i64 z)) hw))) | exact .lit (by first | ((exact congrArg (fun z => SV.v (Value.int .i64 z)) hw)))), (by first | exact trivial | exact Nat.le_of_ble_eq_true rfl)⟩, ?_⟩)
              · repeat (first | exact trivial | refine ⟨⟨_, rfl⟩, ?_⟩)
              · repeat (first | exact trivial | refine ⟨.inl ⟨_, rfl, (by first | rfl | ((exact congrArg (fun z => SV.v (Value.int .i64 z)) hw)))⟩, ?_⟩ | refine ⟨.inr ⟨Nat.le_of_ble_eq_true rfl, rfl, rfl, rfl, rfl⟩, ?_⟩)
          · have hge : m.items.length ≤ k := by simpa using h
            rw [List.take_of_length_le hge] at ha
            refine LoopW.mk ⟨{ k : Nat // k ≤ m.senders.length ∧ ∀ x ∈ m.senders.take k, isValue x.v = true },
              fun p => .mk [(1, .p 0 0), (4, .v (.int .i64 p.1))] 1 0 [(0, 26, 5)] [((0, 0), .v (.int .i64 m.room)), ((0, 1), .v (i.val m.items.length)), ((0, 2), .v (s.val m.senders.length)), ((0, 3), .v (g.val m.getters.length)), ((0, 4), .v (.bool m.closed))] [slo i cInt 1 m.items, slo s cLet 2 m.senders, slo g cInt 1 m.getters],
              fun p => m.senders.length - p.1, ⟨0, Nat.zero_le _, by simp⟩, ?_, ?_⟩
            · refine weak_mk [0, 1, 2] ?_ ?_ ?_ ?_ ?_ rfl rfl
              · repeat (first | exact trivial | refine ⟨⟨_, rfl, (by first | exact .of rfl | exact .lit rfl | exact .of (by first | (rfl)) | exact .lit (by first | (rfl))), (by first | exact trivial | exact Nat.le_of_ble_eq_true rfl)⟩, ?_⟩)
              · repeat (first | exact trivial | refine ⟨⟨(by first | exact .head _ | exact .tail _ (.head _) | exact .tail _ (.tail _ (.head _)) | exact .tail _ (.tail _ (.tail _ (.head _))) | exact .tail _ (.tail _ (.tail _ (.tail _ (.head _)))) | exact .tail _ (.tail _ (.tail _ (.tail _ (.tail _ (.head _))))) | exact .tail _ (.tail _ (.tail _ (.tail _ (.tail _ (.tail _ (.head _)))))) | exact .tail _ (.tail _ (.tail _ (.tail _ (.tail _ (.tail _ (.tail _ (.head _))))))) | exact .tail _ (.tail _ (.tail _ (.tail _ (.tail _ (.tail _ (.tail _ (.tail _ (.head _)))))))) | exact .tail _ (.tail _ (.tail _ (.tail _ (.tail _ (.tail _ (.tail _ (.tail _ (.tail _ (.head _)))))))))), Nat.le_of_ble_eq_true rfl⟩, ?_⟩)
              · repeat (first | exact trivial | refine ⟨⟨_, rfl, (by first | exact .of rfl | exact .lit rfl | exact .of (by first | (rfl)) | exact .lit (by first | (rfl))), (by first | exact trivial | exact Nat.le_of_ble_eq_true rfl)⟩, ?_⟩)
              · repeat (first | exact trivial | refine ⟨⟨_, rfl⟩, ?_⟩)
              · repeat (first | exact trivial | refine ⟨.inl ⟨_, rfl, (by first | rfl | (rfl))⟩, ?_⟩ | refine ⟨.inr ⟨Nat.le_of_ble_eq_true rfl, rfl, rfl, rfl, rfl⟩, ?_⟩)
            · rintro ⟨k, hk, hs⟩
              refine CaseB.mk (fun h => ?_) (fun h => ?_)
              · have hlt : k < m.senders.length := by simpa using h
                refine stop_idx encLet tabOk rfl rfl rfl rfl rfl ⟨rfl, rfl⟩ (by first | exact rdAt 0 rfl | exact rdOwnAt 0 rfl | exact rdAt 1 rfl | exact rdOwnAt 1 rfl | exact rdAt 2 rfl | exact rdOwnAt 2 rfl | exact rdAt 3 rfl | exact rdOwnAt 3 rfl | exact rdAt 4 rfl | exact rdOwnAt 4 rfl | exact rdAt 5 rfl | exact rdOwnAt 5 rfl | exact rdAt 6 rfl | exact rdOwnAt 6 rfl | exact rdAt 7 rfl | exact rdOwnAt 7 rfl | exact rdAt 8 rfl | exact rdOwnAt 8 rfl | exact rdAt 9 rfl | exact rdOwnAt 9 rfl | exact rdAt 10 rfl | exact rdOwnAt 10 rfl | exact rdAt 11 rfl | exact rdOwnAt 11 rfl | exact rdAt 12 rfl | exact rdOwnAt 12 rfl | exact rdAt 13 rfl | exact rdOwnAt 13 rfl | exact rdAt 14 rfl | exact rdOwnAt 14 rfl | exact rdAt 15 rfl | exact rdOwnAt 15 rfl | exact rdAt 16 rfl | exact rdOwnAt 16 rfl | exact rdAt 17 rfl | exact rdOwnAt 17 rfl | exact rdAt 18 rfl | exact rdOwnAt 18 rfl | exact rdAt 19 rfl | exact rdOwnAt 19 rfl | exact rdAt 20 rfl | exact rdOwnAt 20 rfl | exact rdAt 21 rfl | exact rdOwnAt 21 rfl | exact rdAt 22 rfl | exact rdOwnAt 22 rfl | exact rdAt 23 rfl | exact rdOwnAt 23 rfl) k rfl (by first | omega | (simp; done) | (simp; omega) | (unfold maxLen; omega) | (unfold maxLen; simp; done) | (unfold maxLen; simp; omega)) (fun ad => ?_)
                refine stop_call _ cl51 rfl rfl rfl rfl ⟨rfl, rfl⟩ (fun A w hW => l2Value_c _ w) ?_
                rintro v L ⟨rfl, rfl⟩
                refine CaseB.mk (fun h => ?_) (fun h => ?_)
                · exact retw [] ⟨rfl, rfl⟩ trivial rfl trivial (hno (by simpa using h) (fun hv => hv.sv _ (List.getElem_mem hlt)))
                · have hw := wrapN k _ hlt b2
                  refine ⟨⟨k + 1, by omega, all_take_succ (p := fun l : Letter => isValue l.v = true) hlt hs (by simpa using h)⟩, ?_, by simp; omega⟩
                  refine weak_mk [0, 1, 2] ?_ ?_ ?_ ?_ ?_ rfl rfl
                  · repeat (first | exact trivial | refine ⟨⟨_, rfl, (by first | exact .of rfl | exact .lit rfl | exact .of (by first | ((exact congrArg (fun z => SV.v (Value.int .i64 z)) hw))) | exact .lit (by first | ((exact congrArg (fun z => SV.v (Value.int .i64 z)) hw)))), (by first | exact trivial | exact Nat.le_of_ble_eq_true rfl)⟩, ?_⟩)
                  · repeat (first | exact trivial | refine ⟨⟨(by first | exact .head _ | exact .tail _ (.head _) | exact .tail _ (.tail _ (.head _)) | exact .tail _ (.tail _ (.tail _ (.head _))) | exact .tail _ (.tail _ (.tail _ (.tail _ (.head _)))) | exact .tail _ (.tail _ (.tail _ (.tail _ (.tail _ (.head _))))) | exact .tail _ (.tail _ (.tail _ (.tail _ (.tail _ (.tail _ (.head _)))))) | exact .tail _ (.tail _ (.tail _ (.tail _ (.tail _ (.tail _ (.tail _ (.head _))))))) | exact .tail _ (.tail _ (.tail _ (.tail _ (.tail _ (.tail _ (.tail _ (.tail _ (.head _)))))))) | exact .tail _ (.tail _ (.tail _ (.tail _ (.tail _ (.tail _ (.tail _ (.tail _ (.tail _ (.head _)))))))))), Nat.le_of_ble_eq_true rfl⟩, ?_⟩)
                  · repeat (first | exact trivial | refine ⟨⟨_, rfl, (by first | exact .of rfl | exact .lit rfl | exact .of (by first | ((exact congrArg (fun z => SV.v (Value.int .i64 z)) hw))) | exact .lit (by first | ((exact congrArg (fun z => SV.v (Value.int .i64 z)) hw)))), (by first | exact trivial | exact Nat.le_of_ble_eq_true rfl)⟩, ?_⟩)
                  · repeat (first | exact trivial | refine ⟨⟨_, rfl⟩, ?_⟩)
                  · repeat (first | exact trivial | refine ⟨.inl ⟨_, rfl, (by first | rfl | ((exact congrArg (fun z => SV.v (Value.int .i64 z)) hw)))⟩, ?_⟩ | refine ⟨.inr ⟨Nat.le_of_ble_eq_true rfl, rfl, rfl, rfl, rfl⟩, ?_⟩)
              · have hge : m.senders.length ≤ k := by simpa using h
                rw [List.take_of_length_le hge] at hs
                refine draw_start tabOk (by kernel_rfl) (by kernel_rfl) (by kernel_rfl) 200 [((0, 2), .v (s.val m.senders.length)), ((0, 3), .v (g.val m.getters.length))] [0, 1, 2] [_, _, _] ⟨⟨_, rfl, rfl, (by first | exact trivial | exact Nat.le_of_ble_eq_true rfl)⟩, ⟨_, rfl, rfl, (by first | exact trivial | exact Nat.le_of_ble_eq_true rfl)⟩, trivial⟩ ⟨⟨_, rfl⟩, ⟨_, rfl⟩, trivial⟩ ⟨rfl, rfl, rfl, trivial⟩ rfl ?_
                refine d_call _ cl58 rfl rfl rfl rfl ⟨rfl, rfl⟩ (fun A w hW => l5Threads_c s m.senders w ⟨(by first | exact hW.rd 0 rfl | exact hW.rdOwn 0 rfl | exact hW.rd 1 rfl | exact hW.rdOwn 1 rfl | exact hW.rd 2 rfl | exact hW.rdOwn 2 rfl | exact hW.rd 3 rfl | exact hW.rdOwn 3 rfl | exact hW.rd 4 rfl | exact hW.rdOwn 4 rfl | exact hW.rd 5 rfl | exact hW.rdOwn 5 rfl | exact hW.rd 6 rfl | exact hW.rdOwn 6 rfl | exact hW.rd 7 rfl | exact hW.rdOwn 7 rfl | exact hW.rd 8 rfl | exact hW.rdOwn 8 rfl | exact hW.rd 9 rfl | exact hW.rdOwn 9 rfl | exact hW.rd 10 rfl | exact hW.rdOwn 10 rfl | exact hW.rd 11 rfl | exact hW.rdOwn 11 rfl | exact hW.rd 12 rfl | exact hW.rdOwn 12 rfl | exact hW.rd 13 rfl | exact hW.rdOwn 13 rfl | exact hW.rd 14 rfl | exact hW.rdOwn 14 rfl | exact hW.rd 15 rfl | exact hW.rdOwn 15 rfl | exact hW.rd 16 rfl | exact hW.rdOwn 16 rfl | exact hW.rd 17 rfl | exact hW.rdOwn 17 rfl | exact hW.rd 18 rfl | exact hW.rdOwn 18 rfl | exact hW.rd 19 rfl | exact hW.rdOwn 19 rfl | exact hW.rd 20 rfl | exact hW.rdOwn 20 rfl | exact hW.rd 21 rfl | exact hW.rdOwn 21 rfl | exact hW.rd 22 rfl | exact hW.rdOwn 22 rfl | exact hW.rd 23 rfl | exact hW.rdOwn 23 rfl), trivial⟩ b2) ?_
                rw [e7]
                rintro v L ⟨y, rfl, rfl⟩
                refine d_appK (ti := tiOf tab) encInt tabOk  rfl rfl rfl rfl rfl rfl rfl rfl rfl (by decide) ⟨rfl, rfl⟩ (by first | exact isAt 0 rfl | exact isAt 1 rfl | exact isAt 2 rfl | exact isAt 3 rfl | exact isAt 4 rfl | exact isAt 5 rfl | exact isAt 6 rfl | exact isAt 7 rfl | exact isAt 8 rfl | exact isAt 9 rfl | exact isAt 10 rfl | exact isAt 11 rfl) (by first | exact rdAt 0 rfl | exact rdOwnAt 0 rfl | exact rdAt 1 rfl | exact rdOwnAt 1 rfl | exact rdAt 2 rfl | exact rdOwnAt 2 rfl | exact rdAt 3 rfl | exact rdOwnAt 3 rfl | exact rdAt 4 rfl | exact rdOwnAt 4 rfl | exact rdAt 5 rfl | exact rdOwnAt 5 rfl | exact rdAt 6 rfl | exact rdOwnAt 6 rfl | exact rdAt 7 rfl | exact rdOwnAt 7 rfl | exact rdAt 8 rfl | exact rdOwnAt 8 rfl | exact rdAt 9 rfl | exact rdOwnAt 9 rfl | exact rdAt 10 rfl | exact rdOwnAt 10 rfl | exact rdAt 11 rfl | exact rdOwnAt 11 rfl | exact rdAt 12 rfl | exact rdOwnAt 12 rfl | exact rdAt 13 rfl | exact rdOwnAt 13 rfl | exact rdAt 14 rfl | exact rdOwnAt 14 rfl | exact rdAt 15 rfl | exact rdOwnAt 15 rfl | exact rdAt 16 rfl | exact rdOwnAt 16 rfl | exact rdAt 17 rfl | exact rdOwnAt 17 rfl | exact rdAt 18 rfl | exact rdOwnAt 18 rfl | exact rdAt 19 rfl | exact rdOwnAt 19 rfl | exact rdAt 20 rfl | exact rdOwnAt 20 rfl | exact rdAt 21 rfl | exact rdOwnAt 21 rfl | exact rdAt 22 rfl | exact rdOwnAt 22 rfl | exact rdAt 23 rfl | exact rdOwnAt 23 rfl) (by first | omega | (simp; done) | (simp; omega) | (unfold maxLen; omega) | (unfold maxLen; simp; done) | (unfold maxLen; simp; omega)) (by first | omega | (simp; done) | (simp; omega) | (unfold maxLen; omega) | (unfold maxLen; simp; done) | (unfold maxLen; simp; omega)) (by simp [keepF]) (fun z => ?_)
                refine d_call _ cl57 rfl rfl rfl rfl ⟨rfl, rfl⟩ (fun A w hW => l2Waits_c z m.threads w ⟨(by first | exact hW.rd 0 rfl | exact hW.rdOwn 0 rfl | exact hW.rd 1 rfl | exact hW.rdOwn 1 rfl | exact hW.rd 2 rfl | exact hW.rdOwn 2 rfl | exact hW.rd 3 rfl | exact hW.rdOwn 3 rfl | exact hW.rd 4 rfl | exact hW.rdOwn 4 rfl | exact hW.rd 5 rfl | exact hW.rdOwn 5 rfl | exact hW.rd 6 rfl | exact hW.rdOwn 6 rfl | exact hW.rd 7 rfl | exact hW.rdOwn 7 rfl | exact hW.rd 8 rfl | exact hW.rdOwn 8 rfl | exact hW.rd 9 rfl | exact hW.rdOwn 9 rfl | exact hW.rd 10 rfl | exact hW.rdOwn 10 rfl | exact hW.rd 11 rfl | exact hW.rdOwn 11 rfl | exact hW.rd 12 rfl | exact hW.rdOwn 12 rfl | exact hW.rd 13 rfl | exact hW.rdOwn 13 rfl | exact hW.rd 14 rfl | exact hW.rdOwn 14 rfl | exact hW.rd 15 rfl | exact hW.rdOwn 15 rfl | exact hW.rd 16 rfl | exact hW.rdOwn 16 rfl | exact hW.rd 17 rfl | exact hW.rdOwn 17 rfl | exact hW.rd 18 rfl | exact hW.rdOwn 18 rfl | exact hW.rd 19 rfl | exact hW.rdOwn 19 rfl | exact hW.rd 20 rfl | exact hW.rdOwn 20 rfl | exact hW.rd 21 rfl | exact hW.rdOwn 21 rfl | exact hW.rd 22 rfl | exact hW.rdOwn 22 rfl | exact hW.rd 23 rfl | exact hW.rdOwn 23 rfl), trivial⟩ bT) ?_
                rintro v L ⟨rfl, rfl⟩
                refine CaseB.mk (fun h => ?_) (fun h => ?_)
                · exact retw [] ⟨rfl, rfl⟩ trivial rfl trivial (hno (by simpa using h) Chan.Valid.di)
                · have hd : distinct m.threads = true := by simpa using h
                  have fin : (m.senders ≠ [] → (m.items.length : Int) = m.room ∧ m.getters = [] ∧ m.closed = false) → (m.getters ≠ [] → m.items = [] ∧ m.closed = false) → m.Valid := fun x y => ⟨r0, r1, it, ha, hs, hd, x, y⟩
                  refine CaseB.mk (fun q1 => ?_) (fun q1 => ?_)
                  · have hs1 : m.senders ≠ [] := len_pos.1 q1
                    refine CaseB.mk (fun q2 => ?_) (fun q2 => ?_)
                    · exact retw [] ⟨rfl, rfl⟩ trivial rfl trivial (fun _ => Chan.invalid (fun hv => by have := (hv.se hs1).1; simp at q2; omega))
                    · have e2 : (m.items.length : Int) = m.room := by simp at q2; omega
                      refine CaseB.mk (fun q3 => ?_) (fun q3 => ?_)
                      · exact retw [] ⟨rfl, rfl⟩ trivial rfl trivial (fun _ => Chan.invalid (fun hv => len_pos.1 q3 (hv.se hs1).2.1))
                      · have e3 : m.getters = [] := by
                          cases hg : m.getters with
                          | nil => rfl
                          | cons a r => rw [hg] at q3; simp at q3
                        refine CaseB.mk (fun q4 => ?_) (fun q4 => ?_)
                        · exact retw [] ⟨rfl, rfl⟩ trivial rfl trivial (fun _ => Chan.invalid (fun hv => by have := (hv.se hs1).2.2; rw [q4] at this; cases this))
                        · have hS : m.senders ≠ [] → (m.items.length : Int) = m.room ∧ m.getters = [] ∧ m.closed = false := fun _ => ⟨e2, e3, q4⟩
                          refine CaseB.mk (fun q5 => ?_) (fun q5 => ?_)
                          · have hg : m.getters = [] := by simpa using q5
                            exact retw [] ⟨rfl, rfl⟩ trivial rfl trivial (fun _ => Chan.isvalid (fin hS (fun hn => absurd hg hn)))
                          · have hg : m.getters ≠ [] := by simpa using q5
                            refine CaseB.mk (fun q6 => ?_) (fun q6 => ?_)
                            · have hi : m.items = [] := by simpa using q6
                              refine retw [] ⟨rfl, rfl⟩ trivial rfl trivial (fun _ => ?_)
                              show Value.bool (!m.closed) = _
                              cases hc : m.closed with
                              | false => exact Chan.isvalid (fin hS (fun _ => ⟨hi, hc⟩))
                              | true => exact Chan.invalid (fun hv => by have := (hv.ge hg).2; rw [hc] at this; cases this)
                            · have hi : m.items ≠ [] := by simpa using q6
                              exact retw [] ⟨rfl, rfl⟩ trivial rfl trivial (fun _ => Chan.invalid (fun hv => hi (hv.ge hg).1))
                  · have hs1 : m.senders = [] := by
                      cases hg : m.senders with
                      | nil => rfl
                      | cons a r => rw [hg] at q1; simp at q1
                    have hS : m.senders ≠ [] → (m.items.length : Int) = m.room ∧ m.getters = [] ∧ m.closed = false := fun hn => absurd hs1 hn
                    refine CaseB.mk (fun q5 => ?_) (fun q5 => ?_)
                    · have hg : m.getters = [] := by simpa using q5
                      exact retw [] ⟨rfl, rfl⟩ trivial rfl trivial (fun _ => Chan.isvalid (fin hS (fun hn => absurd hg hn)))
                    · have hg : m.getters ≠ [] := by simpa using q5
                      refine CaseB.mk (fun q6 => ?_) (fun q6 => ?_)
                      · have hi : m.items = [] := by simpa using q6
                        refine retw [] ⟨rfl, rfl⟩ trivial rfl trivial (fun _ => ?_)
                        show Value.bool (!m.closed) = _
                        cases hc : m.closed with
                        | false => exact Chan.isvalid (fin hS (fun _ => ⟨hi, hc⟩))
                        | true => exact Chan.invalid (fun hv => by have := (hv.ge hg).2; rw [hc] at this; cases this)
                      · have hi : m.items ≠ [] := by simpa using q6
                        exact retw [] ⟨rfl, rfl⟩ trivial rfl trivial (fun _ => Chan.invalid (fun hv => hi (hv.ge hg).1))
end Go.Proofs.Ytanakfeaifggoaa

