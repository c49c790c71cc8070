/- FnFormatState: texts that its proof stands on, part 1. -/
import Derived.WalkKit
import Derived.WalkSpells
import Derived.Deep.LoopGhost
import Derived.Maps.AppendAt
import Derived.Deep.AppendLies
import Derived.Laws.Cells
import Derived.Laws.CopyRow
import Derived.Test.YtchkcjeeknfchaaGreatDoorRows
namespace Go.Sx
variable {X : Prop}
theorem zw0 (h : X := by repeat (first | exact trivial | refine ⟨⟨(by first | exact .head _ | exact .tail _ (.head _) | exact .tail _ (.tail _ (.head _)) | exact .tail _ (.tail _ (.tail _ (.head _))) | exact .tail _ (.tail _ (.tail _ (.tail _ (.head _)))) | exact .tail _ (.tail _ (.tail _ (.tail _ (.tail _ (.head _))))) | exact .tail _ (.tail _ (.tail _ (.tail _ (.tail _ (.tail _ (.head _)))))) | exact .tail _ (.tail _ (.tail _ (.tail _ (.tail _ (.tail _ (.tail _ (.head _))))))) | exact .tail _ (.tail _ (.tail _ (.tail _ (.tail _ (.tail _ (.tail _ (.tail _ (.head _)))))))) | exact .tail _ (.tail _ (.tail _ (.tail _ (.tail _ (.tail _ (.tail _ (.tail _ (.tail _ (.head _)))))))))), Nat.le_of_ble_eq_true rfl⟩, ?_⟩)) : X := h
theorem zw1 (h : X := by repeat (first | exact trivial | refine ⟨⟨_, rfl, (by first | exact .of rfl | exact .lit rfl | exact .of (by first | ((exact congrArg (fun z => SV.v (Value.int .i64 z)) hw))) | exact .lit (by first | ((exact congrArg (fun z => SV.v (Value.int .i64 z)) hw)))), (by first | exact trivial | exact Nat.le_of_ble_eq_true rfl | exact gA rfl)⟩, ?_⟩)) : X := h
theorem zw2 (h : X := by repeat (first | exact trivial | refine ⟨⟨_, rfl, (by first | exact .of rfl | exact .lit rfl | exact .of (by first | (rfl)) | exact .lit (by first | (rfl))), (by first | exact trivial | exact Nat.le_of_ble_eq_true rfl | exact gA rfl)⟩, ?_⟩)) : X := h
theorem zw3 (h : X := by repeat (first | exact trivial | refine ⟨.inl ⟨_, rfl, (by first | rfl | ((exact congrArg (fun z => SV.v (Value.int .i64 z)) hw)))⟩, ?_⟩ | refine ⟨.inr ⟨Nat.le_of_ble_eq_true rfl, rfl, rfl, rfl, rfl⟩, ?_⟩)) : X := h
theorem zw4 (h : X := by repeat (first | exact trivial | refine ⟨.inl ⟨_, rfl, (by first | rfl | (rfl))⟩, ?_⟩ | refine ⟨.inr ⟨Nat.le_of_ble_eq_true rfl, rfl, rfl, rfl, rfl⟩, ?_⟩)) : X := h
theorem zw5 (h : X := by repeat (first | exact trivial | refine ⟨⟨_, rfl⟩, ?_⟩)) : X := h
theorem zw6 (h : X := by repeat (first | exact trivial | refine ⟨⟨_, rfl, (by first | exact .of rfl | exact .lit rfl | exact .of (by first | ((exact congrArg (fun z => SV.v (Value.int .i64 z)) hwj))) | exact .lit (by first | ((exact congrArg (fun z => SV.v (Value.int .i64 z)) hwj)))), (by first | exact trivial | exact Nat.le_of_ble_eq_true rfl | exact gA rfl)⟩, ?_⟩)) : X := h
theorem zw7 (h : X := by repeat (first | exact trivial | refine ⟨⟨_, rfl, (by first | exact .of rfl | exact .lit rfl | exact .of (by first | ((exact congrArg (fun z => SV.v (Value.int .i64 z)) hw0))) | exact .lit (by first | ((exact congrArg (fun z => SV.v (Value.int .i64 z)) hw0)))), (by first | exact trivial | exact Nat.le_of_ble_eq_true rfl | exact gA rfl)⟩, ?_⟩)) : X := h
theorem zw8 (h : X := by repeat (first | exact trivial | refine ⟨⟨_, rfl, (by first | exact .of rfl | exact .lit rfl | exact .of (by first | ((exact congrArg (fun z => SV.v (Value.int .i64 z)) hw2))) | exact .lit (by first | ((exact congrArg (fun z => SV.v (Value.int .i64 z)) hw2)))), (by first | exact trivial | exact Nat.le_of_ble_eq_true rfl | exact gA rfl)⟩, ?_⟩)) : X := h
theorem zw9 (h : X := by repeat (first | exact trivial | refine ⟨⟨_, rfl, (by first | exact .of rfl | exact .lit rfl | exact .of (by first | ((exact congrArg (fun z => SV.v (Value.int .i64 z)) hwi))) | exact .lit (by first | ((exact congrArg (fun z => SV.v (Value.int .i64 z)) hwi)))), (by first | exact trivial | exact Nat.le_of_ble_eq_true rfl | exact gA rfl)⟩, ?_⟩)) : X := h
theorem zw10 (h : X := by repeat (first | exact trivial | refine ⟨⟨_, rfl, (by first | exact .of rfl | exact .lit rfl | exact .of (by first | ((first | exact congrArg (fun z => SV.v (Value.int .i64 z)) hw | exact congrArg (fun z : Nat => SV.v (Value.int .i64 z)) hc.symm))) | exact .lit (by first | ((first | exact congrArg (fun z => SV.v (Value.int .i64 z)) hw | exact congrArg (fun z : Nat => SV.v (Value.int .i64 z)) hc.symm)))), (by first | exact trivial | exact Nat.le_of_ble_eq_true rfl | exact gA rfl)⟩, ?_⟩)) : X := h
theorem zw11 (h : X := by repeat (first | exact trivial | refine ⟨⟨_, rfl, (by first | exact .of rfl | exact .lit rfl | exact .of (by first | ((first | exact congrArg (fun z => SV.v (Value.int .i64 z)) hw | exact congrArg (fun z => SV.v (Value.int .i64 z)) hw2))) | exact .lit (by first | ((first | exact congrArg (fun z => SV.v (Value.int .i64 z)) hw | exact congrArg (fun z => SV.v (Value.int .i64 z)) hw2)))), (by first | exact trivial | exact Nat.le_of_ble_eq_true rfl | exact gA rfl)⟩, ?_⟩)) : X := h
theorem zw12 (h : X := by repeat (first | exact trivial | refine ⟨⟨_, rfl, (by first | exact .of rfl | exact .lit rfl | exact .of (by first | ((first | (rw [hT]; done) | (simp only [hT]; done) | exact congrArg (fun z => SV.v (Value.int .i64 z)) hw))) | exact .lit (by first | ((first | (rw [hT]; done) | (simp only [hT]; done) | exact congrArg (fun z => SV.v (Value.int .i64 z)) hw)))), (by first | exact trivial | exact Nat.le_of_ble_eq_true rfl | exact gA rfl)⟩, ?_⟩)) : X := h
theorem zw13 (h : X := by repeat (first | exact trivial | refine ⟨.inl ⟨_, rfl, (by first | rfl | ((exact congrArg (fun z => SV.v (Value.int .i64 z)) hwj)))⟩, ?_⟩ | refine ⟨.inr ⟨Nat.le_of_ble_eq_true rfl, rfl, rfl, rfl, rfl⟩, ?_⟩)) : X := h
theorem zw14 (h : X := by repeat (first | exact trivial | refine ⟨.inl ⟨_, rfl, (by first | rfl | ((exact congrArg (fun z => SV.v (Value.int .i64 z)) hw0)))⟩, ?_⟩ | refine ⟨.inr ⟨Nat.le_of_ble_eq_true rfl, rfl, rfl, rfl, rfl⟩, ?_⟩)) : X := h
theorem zw15 (h : X := by repeat (first | exact trivial | refine ⟨⟨_, rfl, (by first | exact .of rfl | exact .lit rfl | exact .of (by first | ((first | exact congrArg (fun z => SV.v (Value.int .i64 z)) hw | (simp only [hcs', List.length_set]; done) | (subst hcs'; simp; done)))) | exact .lit (by first | ((first | exact congrArg (fun z => SV.v (Value.int .i64 z)) hw | (simp only [hcs', List.length_set]; done) | (subst hcs'; simp; done))))), (by first | exact trivial | exact Nat.le_of_ble_eq_true rfl | exact gA rfl)⟩, ?_⟩)) : X := h
theorem zw16 (h : X := by repeat (first | exact trivial | refine ⟨⟨_, rfl, (by first | exact .of rfl | exact .lit rfl | exact .of (by first | ((first | exact congrArg (fun z => SV.v (Value.int .i64 z)) hw' | (simp only [l3]; done) | (simp only [List.length_set]; done)))) | exact .lit (by first | ((first | exact congrArg (fun z => SV.v (Value.int .i64 z)) hw' | (simp only [l3]; done) | (simp only [List.length_set]; done))))), (by first | exact trivial | exact Nat.le_of_ble_eq_true rfl | exact gA rfl)⟩, ?_⟩)) : X := h
theorem zw17 (h : X := by repeat (first | exact trivial | refine ⟨⟨_, rfl, (by first | exact .of rfl | exact .lit rfl | exact .of (by first | ((first | exact congrArg (fun z => SV.v (Value.int .i64 z)) hw | exact congrArg (fun z => SV.v (Value.int .i64 z)) hv))) | exact .lit (by first | ((first | exact congrArg (fun z => SV.v (Value.int .i64 z)) hw | exact congrArg (fun z => SV.v (Value.int .i64 z)) hv)))), (by first | exact trivial | exact Nat.le_of_ble_eq_true rfl | exact gA rfl)⟩, ?_⟩)) : X := h
theorem zw18 (h : X := by repeat (first | exact trivial | refine ⟨.inl ⟨_, rfl, (by first | rfl | ((exact congrArg (fun z => SV.v (Value.int .i64 z)) hw2)))⟩, ?_⟩ | refine ⟨.inr ⟨Nat.le_of_ble_eq_true rfl, rfl, rfl, rfl, rfl⟩, ?_⟩)) : X := h
theorem zw19 (h : X := by repeat (first | exact trivial | refine ⟨⟨_, rfl, (by first | exact .of rfl | exact .lit rfl | exact .of (by first | ((first | (simp only [h1]; done) | (simp only [h2]; done)))) | exact .lit (by first | ((first | (simp only [h1]; done) | (simp only [h2]; done))))), (by first | exact trivial | exact Nat.le_of_ble_eq_true rfl | exact gA rfl)⟩, ?_⟩)) : X := h
theorem zw20 (h : X := by repeat (first | exact trivial | refine ⟨⟨_, rfl, (by first | exact .of rfl | exact .lit rfl | exact .of (by first | ((exact congrArg (fun z => SV.v (Value.int .i64 z)) hn0))) | exact .lit (by first | ((exact congrArg (fun z => SV.v (Value.int .i64 z)) hn0)))), (by first | exact trivial | exact Nat.le_of_ble_eq_true rfl | exact gA rfl)⟩, ?_⟩)) : X := h
theorem zw21 (h : X := by repeat (first | exact trivial | refine ⟨⟨_, rfl, (by first | exact .of rfl | exact .lit rfl | exact .of (by first | ((first | (rw [eP]; done) | (rw [eS]; done)))) | exact .lit (by first | ((first | (rw [eP]; done) | (rw [eS]; done))))), (by first | exact trivial | exact Nat.le_of_ble_eq_true rfl | exact gA rfl)⟩, ?_⟩)) : X := h
theorem zw22 (h : X := by repeat (first | exact trivial | refine ⟨.inl ⟨_, rfl, (by first | rfl | ((exact congrArg (fun z => SV.v (Value.int .i64 z)) hwi)))⟩, ?_⟩ | refine ⟨.inr ⟨Nat.le_of_ble_eq_true rfl, rfl, rfl, rfl, rfl⟩, ?_⟩)) : X := h
theorem zw23 (h : X := by repeat (first | exact trivial | refine ⟨⟨_, rfl, (by first | exact .of rfl | exact .lit rfl | exact .of (by first | ((first | (rw [e1]; done)))) | exact .lit (by first | ((first | (rw [e1]; done))))), (by first | exact trivial | exact Nat.le_of_ble_eq_true rfl | exact gA rfl)⟩, ?_⟩)) : X := h
theorem zw24 (h : X := by repeat (first | exact trivial | refine ⟨⟨_, rfl, (by first | exact .of rfl | exact .lit rfl | exact .of (by first | ((first | (rw [e2]; done)))) | exact .lit (by first | ((first | (rw [e2]; done))))), (by first | exact trivial | exact Nat.le_of_ble_eq_true rfl | exact gA rfl)⟩, ?_⟩)) : X := h
theorem zw25 (h : X := by repeat (first | exact trivial | refine ⟨.inl ⟨_, rfl, (by first | rfl | ((first | exact congrArg (fun z => SV.v (Value.int .i64 z)) hw | exact congrArg (fun z : Nat => SV.v (Value.int .i64 z)) hc.symm)))⟩, ?_⟩ | refine ⟨.inr ⟨Nat.le_of_ble_eq_true rfl, rfl, rfl, rfl, rfl⟩, ?_⟩)) : X := h
theorem zw26 (h : X := by repeat (first | exact trivial | refine ⟨.inl ⟨_, rfl, (by first | rfl | ((first | exact congrArg (fun z => SV.v (Value.int .i64 z)) hw | exact congrArg (fun z => SV.v (Value.int .i64 z)) hw2)))⟩, ?_⟩ | refine ⟨.inr ⟨Nat.le_of_ble_eq_true rfl, rfl, rfl, rfl, rfl⟩, ?_⟩)) : X := h
theorem zw27 (h : X := by repeat (first | exact trivial | refine ⟨.inl ⟨_, rfl, (by first | rfl | ((first | (rw [hT]; done) | (simp only [hT]; done) | exact congrArg (fun z => SV.v (Value.int .i64 z)) hw)))⟩, ?_⟩ | refine ⟨.inr ⟨Nat.le_of_ble_eq_true rfl, rfl, rfl, rfl, rfl⟩, ?_⟩)) : X := h
theorem zw28 (h : X := by repeat (first | exact trivial | refine ⟨⟨_, rfl, (by first | exact .of rfl | exact .lit rfl | exact .of (by first | ((simp))) | exact .lit (by first | ((simp)))), (by first | exact trivial | exact Nat.le_of_ble_eq_true rfl | exact gA rfl)⟩, ?_⟩)) : X := h
theorem z29 (h : X := by first | exact hW.rdP _ hga rfl 0 rfl | exact hW.rdOwnP _ hga rfl 0 rfl | exact hW.rdP _ hga rfl 1 rfl | exact hW.rdOwnP _ hga rfl 1 rfl | exact hW.rdP _ hga rfl 2 rfl | exact hW.rdOwnP _ hga rfl 2 rfl | exact hW.rdP _ hga rfl 3 rfl | exact hW.rdOwnP _ hga rfl 3 rfl | exact hW.rdP _ hga rfl 4 rfl | exact hW.rdOwnP _ hga rfl 4 rfl | exact hW.rdP _ hga rfl 5 rfl | exact hW.rdOwnP _ hga rfl 5 rfl | exact hW.rdP _ hga rfl 6 rfl | exact hW.rdOwnP _ hga rfl 6 rfl | exact hW.rdP _ hga rfl 7 rfl | exact hW.rdOwnP _ hga rfl 7 rfl | exact hW.rdP _ hga rfl 8 rfl | exact hW.rdOwnP _ hga rfl 8 rfl | exact hW.rdP _ hga rfl 9 rfl | exact hW.rdOwnP _ hga rfl 9 rfl | exact hW.rdP _ hga rfl 10 rfl | exact hW.rdOwnP _ hga rfl 10 rfl | exact hW.rdP _ hga rfl 11 rfl | exact hW.rdOwnP _ hga rfl 11 rfl | exact hW.rdP _ hga rfl 12 rfl | exact hW.rdOwnP _ hga rfl 12 rfl | exact hW.rdP _ hga rfl 13 rfl | exact hW.rdOwnP _ hga rfl 13 rfl | exact hW.rdP _ hga rfl 14 rfl | exact hW.rdOwnP _ hga rfl 14 rfl | exact hW.rdP _ hga rfl 15 rfl | exact hW.rdOwnP _ hga rfl 15 rfl | exact hW.rdP _ hga rfl 16 rfl | exact hW.rdOwnP _ hga rfl 16 rfl | exact hW.rdP _ hga rfl 17 rfl | exact hW.rdOwnP _ hga rfl 17 rfl | exact hW.rdP _ hga rfl 18 rfl | exact hW.rdOwnP _ hga rfl 18 rfl | exact hW.rdP _ hga rfl 19 rfl | exact hW.rdOwnP _ hga rfl 19 rfl | exact hW.rdP _ hga rfl 20 rfl | exact hW.rdOwnP _ hga rfl 20 rfl | exact hW.rdP _ hga rfl 21 rfl | exact hW.rdOwnP _ hga rfl 21 rfl | exact hW.rdP _ hga rfl 22 rfl | exact hW.rdOwnP _ hga rfl 22 rfl | exact hW.rdP _ hga rfl 23 rfl | exact hW.rdOwnP _ hga rfl 23 rfl) : X := h
theorem z30 (h : X := by first | exact hW.rd 0 rfl | exact hW.rdOwn 0 rfl | exact hW.rd 1 rfl | exact hW.rdOwn 1 rfl | exact hW.rd 2 rfl | exact hW.rdOwn 2 rfl | exact hW.rd 3 rfl | exact hW.rdOwn 3 rfl | exact hW.rd 4 rfl | exact hW.rdOwn 4 rfl | exact hW.rd 5 rfl | exact hW.rdOwn 5 rfl | exact hW.rd 6 rfl | exact hW.rdOwn 6 rfl | exact hW.rd 7 rfl | exact hW.rdOwn 7 rfl | exact hW.rd 8 rfl | exact hW.rdOwn 8 rfl | exact hW.rd 9 rfl | exact hW.rdOwn 9 rfl | exact hW.rd 10 rfl | exact hW.rdOwn 10 rfl | exact hW.rd 11 rfl | exact hW.rdOwn 11 rfl | exact hW.rd 12 rfl | exact hW.rdOwn 12 rfl | exact hW.rd 13 rfl | exact hW.rdOwn 13 rfl | exact hW.rd 14 rfl | exact hW.rdOwn 14 rfl | exact hW.rd 15 rfl | exact hW.rdOwn 15 rfl | exact hW.rd 16 rfl | exact hW.rdOwn 16 rfl | exact hW.rd 17 rfl | exact hW.rdOwn 17 rfl | exact hW.rd 18 rfl | exact hW.rdOwn 18 rfl | exact hW.rd 19 rfl | exact hW.rdOwn 19 rfl | exact hW.rd 20 rfl | exact hW.rdOwn 20 rfl | exact hW.rd 21 rfl | exact hW.rdOwn 21 rfl | exact hW.rd 22 rfl | exact hW.rdOwn 22 rfl | exact hW.rd 23 rfl | exact hW.rdOwn 23 rfl) : X := h
theorem z31 (h : X := by first | exact gN 0 rfl | exact bF 0 rfl | exact gN 1 rfl | exact bF 1 rfl | exact gN 2 rfl | exact bF 2 rfl | exact gN 3 rfl | exact bF 3 rfl | exact gN 4 rfl | exact bF 4 rfl | exact gN 5 rfl | exact bF 5 rfl | exact gN 6 rfl | exact bF 6 rfl | exact gN 7 rfl | exact bF 7 rfl | exact gN 8 rfl | exact bF 8 rfl | exact gN 9 rfl | exact bF 9 rfl | exact gN 10 rfl | exact bF 10 rfl | exact gN 11 rfl | exact bF 11 rfl | exact gN 12 rfl | exact bF 12 rfl | exact gN 13 rfl | exact bF 13 rfl | exact gN 14 rfl | exact bF 14 rfl | exact gN 15 rfl | exact bF 15 rfl | exact gN 16 rfl | exact bF 16 rfl | exact gN 17 rfl | exact bF 17 rfl | exact gN 18 rfl | exact bF 18 rfl | exact gN 19 rfl | exact bF 19 rfl | exact gN 20 rfl | exact bF 20 rfl | exact gN 21 rfl | exact bF 21 rfl | exact gN 22 rfl | exact bF 22 rfl | exact gN 23 rfl | exact bF 23 rfl) : X := h
theorem z32 (h : X := by first | exact dT (hW.rdP _ hga rfl 0 rfl) | exact dT (hW.rdP _ hga rfl 1 rfl) | exact dT (hW.rdP _ hga rfl 2 rfl) | exact dT (hW.rdP _ hga rfl 3 rfl) | exact dT (hW.rdP _ hga rfl 4 rfl) | exact dT (hW.rdP _ hga rfl 5 rfl) | exact dT (hW.rdP _ hga rfl 6 rfl) | exact dT (hW.rdP _ hga rfl 7 rfl) | exact dT (hW.rdP _ hga rfl 8 rfl) | exact dT (hW.rdP _ hga rfl 9 rfl) | exact dT (hW.rdP _ hga rfl 10 rfl) | exact dT (hW.rdP _ hga rfl 11 rfl) | exact dT (hW.rdP _ hga rfl 12 rfl) | exact dT (hW.rdP _ hga rfl 13 rfl) | exact dT (hW.rdP _ hga rfl 14 rfl) | exact dT (hW.rdP _ hga rfl 15 rfl) | exact dT (hW.rdP _ hga rfl 16 rfl) | exact dT (hW.rdP _ hga rfl 17 rfl) | exact dT (hW.rdP _ hga rfl 18 rfl) | exact dT (hW.rdP _ hga rfl 19 rfl) | exact dT (hW.rdP _ hga rfl 20 rfl) | exact dT (hW.rdP _ hga rfl 21 rfl) | exact dT (hW.rdP _ hga rfl 22 rfl) | exact dT (hW.rdP _ hga rfl 23 rfl)) : X := h
theorem z33 (h : X := by rw [hy9]; exact fun g hg => (nZ hg).elim (fun h => jV 14 rfl h) (fun h => by simp only [jO, List.mem_cons, List.not_mem_nil, or_false] at h; rcases h with rfl | rfl | rfl <;> first | exact kS 7 rfl rfl | exact kS 8 rfl rfl | exact kS 9 rfl rfl)) : X := h
theorem z34 (h : X := by rw [hy9]; exact fun g hg => (nZ hg).elim (fun h => jV 13 rfl h) (fun h => by simp only [jO, List.mem_cons, List.not_mem_nil, or_false] at h; rcases h with rfl | rfl | rfl <;> first | exact kS 5 rfl rfl | exact kS 6 rfl rfl | exact kS 7 rfl rfl)) : X := h
theorem z35 (h : X := by first | exact uD 0 rfl | exact uD 1 rfl | exact uD 2 rfl | exact uD 3 rfl | exact uD 4 rfl | exact uD 5 rfl | exact uD 6 rfl | exact uD 7 rfl | exact uD 8 rfl | exact uD 9 rfl | exact uD 10 rfl | exact uD 11 rfl) : X := h
theorem z36 (h : X := by rw [hy9]; exact fun g hg => (nY hg).elim (fun h => jV 9 rfl h) (fun h => by obtain rfl := List.mem_singleton.1 h; exact kS 2 rfl rfl)) : X := h
theorem z37 (h : X := by first | omega | (simp; done) | (simp; omega) | (unfold maxLen; omega) | (unfold maxLen; simp; done) | (unfold maxLen; simp; omega)) : X := h
theorem z38 (h : X := by first | rfl | ((first | (simp only [hw0, h0, hD, SV.den, mJ]; done) | (simp only [hw0, h0, hD, SV.den, mJ]; rfl)))) : X := h
theorem z39 (h : X := by first | rfl | ((first | (simp only [l1, l2, hD, SV.den, stV]; done) | (simp only [l1, l2, hD, SV.den, stV]; rfl)))) : X := h
theorem z40 (h : X := by rw [List.flatMap_append]; exact (List.Perm.of_eq (by simp [fF])).trans List.perm_append_comm) : X := h
theorem z41 (h : X := by rw [List.flatMap_append]; exact (List.Perm.of_eq (by simp [lE])).trans List.perm_append_comm) : X := h
theorem z42 (h : X := by rw [List.flatMap_append]; exact (List.Perm.of_eq (by simp [qB])).trans List.perm_append_comm) : X := h
theorem z43 (h : X := by rw [List.flatMap_append]; exact (List.Perm.of_eq (by simp [jO])).trans List.perm_append_comm) : X := h
theorem z44 (h : X := by rw [List.flatMap_append]; exact (List.Perm.of_eq (by simp [qM])).trans List.perm_append_comm) : X := h
theorem z45 (h : X := by have := (e.barriers k _ hat).2; rw [hpat] at this; injection this with this; exact this.symm) : X := h
theorem z46 (h : X := by have := hb.2 ((e.ops _ (hmem k hlt)).2 _ (List.getElem_mem hlj)); rw [this] at g; cases g) : X := h
theorem z47 (h : X := by have := (e.chans k _ hat).2; rw [hpat] at this; injection this with this; exact this.symm) : X := h
theorem z48 (h : X := by have := (e.sems k _ hat).2; rw [hpat] at this; injection this with this; exact this.symm) : X := h
theorem z49 (h : X := by first | exact .sl | exact .own | exact .gen (fun _ h => h) (fun _ h => h) rfl rfl) : X := h
theorem z50 (h : X := by rw [hy9]; exact gK 0 1 10 11 12 13 6 4 rfl rfl rfl rfl rfl rfl rfl rfl) : X := h
theorem z51 (h : X := by simp only [List.length_append, List.length_cons, List.length_nil]; omega) : X := h
theorem z52 (h : X := by rw [hy9]; exact gK 0 1 8 9 10 11 4 12 rfl rfl rfl rfl rfl rfl rfl rfl) : X := h
theorem z53 (h : X := by rw [hy9]; exact gK 4 5 6 7 8 9 10 11 rfl rfl rfl rfl rfl rfl rfl rfl) : X := h
theorem z54 (h : X := by simp only [cK, List.length_append, List.length_map] at hpre; omega) : X := h
theorem z55 (h : X := by rw [hy9]; exact gK 3 0 4 1 5 6 7 8 rfl rfl rfl rfl rfl rfl rfl rfl) : X := h
theorem z56 (h : X := by rw [hy9]; exact gK 1 2 3 4 5 6 7 8 rfl rfl rfl rfl rfl rfl rfl rfl) : X := h
theorem z57 (h : X := by simp only [List.length_cons, List.length_nil]; unfold maxLen; omega) : X := h
theorem z58 (h : X := by first | rfl | ((simp [hs, hI', hD, SV.den, kZ, gI, Sl.val]))) : X := h
theorem z59 (h : X := by first | rfl | ((simp [hs, hD, SV.den, kZ, gI, Sl.val]))) : X := h
theorem z60 (h : X := by first | rfl | ((simp only [hw, hD, SV.den, lD]; rfl))) : X := h
theorem z61 (h : X := by first | rfl | ((simp only [hw, hD, SV.den, mJ]; rfl))) : X := h
theorem z62 (h : X := by have := (hf1 e).2; rw [huu, hwant] at this; injection this) : X := h
theorem z63 (h : X := by rw [List.drop_eq_nil_of_le (by exact Nat.le_refl _)]; simp) : X := h
theorem z64 (h : X := by first | exact trivial | exact Nat.le_of_ble_eq_true rfl) : X := h
theorem z65 (h : X := by simp only [List.length_cons, List.length_nil]; omega) : X := h
theorem z66 (h : X := by have hm := htin.1 u hu; exact lK (hnq u h0) hm) : X := h
theorem z67 (h : X := by repeat (first | exact .head _ | apply List.Mem.tail)) : X := h
theorem z68 (h : X := by have := (List.getElem?_eq_some_iff.1 hx).1; omega) : X := h
theorem z69 (h : X := by first | rfl | ((simp only [hT, hD, SV.den]))) : X := h
theorem z70 (h : X := by rw [hy9]; exact fun g hg => jV 9 rfl hg) : X := h
theorem z71 (h : X := by rw [hb.2 (hx.1 e).1] at g1; cases g1) : X := h
theorem z72 (h : X := by have := of_decide_eq_false g; omega) : X := h
theorem z73 (h : X := by simp [Region.wanted, hg, hy]) : X := h
theorem z74 (h : X := by rw [List.length_drop]; omega) : X := h
theorem z75 (h : X := by rw [vW, ht, hn]; exact h) : X := h
theorem z76 (h : X := by first | rfl | (simp; done)) : X := h
theorem z77 (h : X := by simpa using hmem') : X := h
theorem z78 (h : X := by simpa using hdn) : X := h
theorem z79 (h : X := by simpa using hge) : X := h
theorem z80 (h : X := by simpa using hl) : X := h
theorem z81 (h : X := by simpa using ho) : X := h
theorem z82 (h : X := by simpa using g2) : X := h
theorem z83 (h : X := by simpa using h) : X := h
theorem z84 (h : X := by simpa using k) : X := h
theorem z85 (h : X := by simpa using g) : X := h
theorem z86 (h : X := by simp [iP]) : X := h
theorem z87 (h : X := by simp; omega) : X := h
theorem z88 (h : X := by kernel_rfl) : X := h
theorem z89 (h : X := by cases h) : X := h
theorem z90 (h : X := by exact ⟨⟨_, rfl, rfl, z64⟩, ⟨_, rfl, rfl, z64⟩, ⟨_, rfl, rfl, z64⟩, ⟨_, rfl, rfl, z64⟩, ⟨_, rfl, rfl, z64⟩, ⟨_, rfl, rfl, z64⟩, ⟨_, rfl, rfl, z64⟩, ⟨_, rfl, rfl, z64⟩, ⟨_, rfl, rfl, z64⟩, ⟨_, rfl, rfl, z64⟩, ⟨_, rfl, rfl, z64⟩, ⟨_, rfl, rfl, z64⟩, ⟨_, rfl, rfl, z64⟩, ⟨_, rfl, rfl, z64⟩, trivial⟩) : X := h
theorem z91 (h : X := by exact ⟨.inr ⟨Nat.le_of_ble_eq_true rfl, rfl, rfl, rfl, rfl⟩, .inr ⟨Nat.le_of_ble_eq_true rfl, rfl, rfl, rfl, rfl⟩, .inr ⟨Nat.le_of_ble_eq_true rfl, rfl, rfl, rfl, rfl⟩, .inl ⟨_, rfl, rfl⟩, trivial⟩) : X := h
theorem z92 (h : X := by exact ⟨⟨_, rfl⟩, ⟨_, rfl⟩, ⟨_, rfl⟩, ⟨_, rfl⟩, ⟨_, rfl⟩, ⟨_, rfl⟩, ⟨_, rfl⟩, ⟨_, rfl⟩, ⟨_, rfl⟩, ⟨_, rfl⟩, ⟨_, rfl⟩, ⟨_, rfl⟩, ⟨_, rfl⟩, ⟨_, rfl⟩, trivial⟩) : X := h
theorem z93 (h : X := by exact ⟨⟨_, rfl, rfl, z64⟩, ⟨_, rfl, rfl, z64⟩, ⟨_, rfl, rfl, z64⟩, ⟨_, rfl, rfl, z64⟩, ⟨_, rfl, rfl, z64⟩, ⟨_, rfl, rfl, z64⟩, trivial⟩) : X := h
theorem z94 (h : X := by exact ⟨⟨_, rfl, rfl, z64⟩, ⟨_, rfl, rfl, z64⟩, ⟨_, rfl, rfl, z64⟩, ⟨_, rfl, rfl, z64⟩, ⟨_, rfl, rfl, z64⟩, trivial⟩) : X := h
theorem z95 (h : X := by exact ⟨rfl, rfl, rfl, rfl, rfl, rfl, rfl, rfl, rfl, rfl, rfl, rfl, rfl, rfl, rfl, rfl, rfl, rfl, trivial⟩) : X := h
theorem z96 (h : X := by exact ⟨.inl ⟨_, rfl, .own⟩, .inl ⟨_, rfl, .own⟩, .inl ⟨_, rfl, .own⟩, .inl ⟨_, rfl, .o⟩, trivial⟩) : X := h
theorem z97 (h : X := by exact ⟨.inl ⟨_, rfl, rfl⟩, .inl ⟨_, rfl, rfl⟩, .inl ⟨_, rfl, rfl⟩, .inl ⟨_, rfl, rfl⟩, trivial⟩) : X := h
theorem z98 (h : X := by exact ⟨⟨_, rfl, rfl, z64⟩, ⟨_, rfl, rfl, z64⟩, ⟨_, rfl, rfl, z64⟩, ⟨_, rfl, rfl, z64⟩, trivial⟩) : X := h
theorem z99 (h : X := by exact ⟨.inl ⟨_, rfl, z59⟩, .inl ⟨_, rfl, z59⟩, .inl ⟨_, rfl, z59⟩, .inl ⟨_, rfl, z59⟩, trivial⟩) : X := h
theorem z100 (h : X := by exact ⟨.inl ⟨_, rfl, z58⟩, .inl ⟨_, rfl, z58⟩, .inl ⟨_, rfl, z58⟩, .inl ⟨_, rfl, z58⟩, trivial⟩) : X := h
theorem z101 (h : X := by exact ⟨.inr ⟨Nat.le_of_ble_eq_true rfl, rfl, rfl, rfl, rfl⟩, .inl ⟨_, rfl, rfl⟩, trivial⟩) : X := h
theorem z102 (h : X := by exact ⟨⟨_, rfl, rfl, z64⟩, ⟨_, rfl, rfl, z64⟩, ⟨_, rfl, rfl, z64⟩, trivial⟩) : X := h
theorem z103 (h : X := by exact ⟨⟨_, rfl⟩, ⟨_, rfl⟩, ⟨_, rfl⟩, ⟨_, rfl⟩, ⟨_, rfl⟩, ⟨_, rfl⟩, trivial⟩) : X := h
theorem z104 (h : X := by exact ⟨.inr ⟨Nat.le_of_ble_eq_true rfl, rfl, rfl, rfl, rfl⟩, trivial⟩) : X := h
theorem z105 (h : X := by exact ⟨⟨_, rfl⟩, ⟨_, rfl⟩, ⟨_, rfl⟩, ⟨_, rfl⟩, ⟨_, rfl⟩, trivial⟩) : X := h
theorem z106 (h : X := by exact ⟨rfl, rfl, rfl, rfl, rfl, rfl, rfl, rfl, rfl, trivial⟩) : X := h
theorem z107 (h : X := by exact ⟨⟨_, rfl, rfl, z64⟩, ⟨_, rfl, rfl, z64⟩, trivial⟩) : X := h
theorem z108 (h : X := by exact ⟨.inl ⟨_, rfl, .own⟩, .inl ⟨_, rfl, .o⟩, trivial⟩) : X := h
theorem z109 (h : X := by exact ⟨.inl ⟨_, rfl, rfl⟩, .inl ⟨_, rfl, rfl⟩, trivial⟩) : X := h
theorem z110 (h : X := by exact ⟨⟨_, rfl⟩, ⟨_, rfl⟩, ⟨_, rfl⟩, ⟨_, rfl⟩, trivial⟩) : X := h
theorem z111 (h : X := by exact ⟨Nat.le_of_ble_eq_true rfl, rfl, rfl, rfl, rfl⟩) : X := h
theorem z112 (h : X := by exact ⟨rfl, rfl, rfl, rfl, rfl, rfl, trivial⟩) : X := h
theorem z113 (h : X := by exact ⟨⟨_, rfl⟩, ⟨_, rfl⟩, ⟨_, rfl⟩, trivial⟩) : X := h
theorem z114 (h : X := by exact ⟨⟨_, rfl, z49⟩, ⟨_, rfl, z49⟩, trivial⟩) : X := h
theorem z115 (h : X := by exact ⟨rfl, rfl, rfl, .inl rfl, .inl rfl⟩) : X := h
theorem z116 (h : X := by exact ⟨⟨_, rfl⟩, ⟨_, rfl⟩, trivial⟩) : X := h
theorem z117 (h : X := by exact ⟨⟨_, rfl, rfl, z64⟩, trivial⟩) : X := h
theorem z118 (h : X := by exact ⟨.inl ⟨_, rfl, rfl⟩, trivial⟩) : X := h
theorem z119 (h : X := by exact ⟨fun _ h => h, fun _ h => h⟩) : X := h
theorem z120 (h : X := by exact ⟨⟨_, rfl⟩, trivial⟩) : X := h
end Go.Sx
namespace Go.Sx
open Go Go.RowKit
structure Sl where
 a : Option Addr
 c : Nat
def Sl.val (i : Sl) (n : Nat) : Value := .slice i.a n i.c
inductive SV where
 | v (x : Value)
 | lit (b : Bool)
 | p (k off : Nat)
 | e (s : Nat) (ad : Addr) (cs : List Value) (off : Nat)
 | f (g : FuncId) (cap : List (Nat × Nat))
def ptr (A : Nat → Nat) (k o : Nat) : Value := .pointer (some ⟨A k, o, none⟩)
def SV.den (A : Nat → Nat) : SV → Value
 | .v x => x
 | .lit b => .bool b
 | .p k o => ptr A k o
 | .e _ ad _ off => .pointer (some (ad.add off))
 | .f g cap => .func (.func g) #[] (cap.map fun x => ptr A x.1 x.2).toArray
def RdS (w : World) (i : Sl) (sz : Nat) (cs : List Value) (n : Nat) : Prop :=
 cs.length = n * sz ∧ n ≤ i.c ∧ i.c ≤ maxLen ∧ (0 < n → ∃ ad, i.a = some ad ∧ ∀ j u, cs[j]? = some u → w.cell? (ad.add j) = some u)
inductive Fct where
 | sl (old : Bool) (i : Sl) (sz : Nat) (cs : List Value) (n : Nat)
 | own (old : Bool) (i : Sl) (e : TypeId) (sz : Nat) (cs : List Value) (n : Nat)
 | other (old own : Bool) (foot : Nat → Prop) (P : World → Prop) (st : ∀ w w' : World, (∀ b, foot b → w'.heap[b]? = w.heap[b]?) → P w → P w')
def Fct.P : Fct → World → Prop
 | .sl _ i sz cs n, w => RdS w i sz cs n
 | .own _ i e sz cs n, w => w.ownsRow 0 e sz (i.val n) n cs
 | .other _ _ _ P _, w => P w
def Fct.foot : Fct → Nat → Prop
 | .sl _ i _ _ n, b => 0 < n ∧ ∃ ad, i.a = some ad ∧ b = ad.block
 | .own _ i _ _ _ _, b => ∃ ad, i.a = some ad ∧ b = ad.block
 | .other _ _ foot _ _, b => foot b
def Fct.isOwn : Fct → Bool
 | .sl .. => false
 | .own .. => true
 | .other _ o _ _ _ => o
def Fct.old : Fct → Bool
 | .sl old _ _ _ _ => old
 | .own old _ _ _ _ _ => old
 | .other old _ _ _ _ => old
theorem sM (a : Addr) (j : Nat) : (a.add j).block = a.block := by unfold Addr.add; split <;> rfl
theorem Fct.st : ∀ (f : Fct) (w w' : World), (∀ b, f.foot b → w'.heap[b]? = w.heap[b]?) → f.P w → f.P w'
 | .sl old i sz cs n, w, w', hb, h => ⟨h.1, h.2.1, h.2.2.1, fun hn => by
   obtain ⟨ad, e, hc⟩ := h.2.2.2 hn
   refine ⟨ad, e, fun j u hu => ?_⟩
   rw [← hc j u hu]
   exact World.cell?_of_block (by rw [sM]; exact hb ad.block ⟨hn, ad, e, rfl⟩)⟩
 | .own old i e sz cs n, w, w', hb, h => by
   refine ⟨h.1, ?_⟩
   rcases h.2 with h2 | ⟨g, cap, cur, hv, hg, hh, r⟩
   · exact .inl h2
   · refine .inr ⟨g, cap, cur, hv, hg, ?_, r⟩
     have : i.a = some ⟨g, 0, none⟩ := by simp only [Sl.val] at hv; injection hv
     rw [hb g ⟨_, this, rfl⟩]; exact hh
 | .other _ _ _ _ st, w, w', hb, h => st w w' hb h
def Dj (f g : Fct) : Prop := f.isOwn = true ∨ g.isOwn = true → ∀ b, f.foot b → ¬ g.foot b
theorem Dj.symm {f g : Fct} (h : Dj f g) : Dj g f := fun ho b hg hf => h ho.symm b hf hg
structure ExtX (X : Nat → Prop) (w w' : World) : Prop where
 os : w'.os = w.os
 tape : w'.tape = w.tape
 output : w'.output = w.output
 size : w.heap.size ≤ w'.heap.size
 block : ∀ k, k < w.heap.size → ¬ X k → w'.heap[k]? = w.heap[k]?
def no : Nat → Prop := fun _ => False
abbrev Ext (w w' : World) : Prop := ExtX no w w'
theorem ExtX.refl (X : Nat → Prop) (w : World) : ExtX X w w := ⟨rfl, rfl, rfl, Nat.le_refl _, fun _ _ _ => rfl⟩
theorem ExtX.trans {X : Nat → Prop} {a b c : World} (h : ExtX X a b) (k : ExtX X b c) : ExtX X a c :=
 ⟨k.os.trans h.os, k.tape.trans h.tape, k.output.trans h.output, Nat.le_trans h.size k.size, fun i hi hx => (k.block i (Nat.lt_of_lt_of_le hi h.size) hx).trans (h.block i hi hx)⟩
theorem ExtX.trans' {X Y : Nat → Prop} {a b c : World} (h : ExtX X a b) (k : ExtX Y b c) (hy : ∀ i, i < a.heap.size → Y i → X i) : ExtX X a c :=
 ⟨k.os.trans h.os, k.tape.trans h.tape, k.output.trans h.output, Nat.le_trans h.size k.size, fun i hi hx => (k.block i (Nat.lt_of_lt_of_le hi h.size) (fun y => hx (hy i hi y))).trans (h.block i hi hx)⟩
theorem ExtX.mono {X Y : Nat → Prop} {a b : World} (h : ExtX X a b) (hy : ∀ i, i < a.heap.size → X i → Y i) : ExtX Y a b :=
 ⟨h.os, h.tape, h.output, h.size, fun i hi hx => h.block i hi (fun y => hx (hy i hi y))⟩
theorem Ext.any {X : Nat → Prop} {a b : World} (h : Ext a b) : ExtX X a b := h.mono fun _ _ => False.elim
theorem Ext.below {a b : World} (h : Ext a b) : Below a.heap.size a b := ⟨h.os, h.tape, h.output, h.size, fun k hk => h.block k hk (fun h => h)⟩
theorem Ext.of_below {a b : World} (h : Below a.heap.size a b) : Ext a b := ⟨h.os, h.tape, h.output, h.size, fun k hk _ => h.block k hk⟩
theorem ExtX.drawn {X : Nat → Prop} {a w : World} (h : ExtX X a w) (n : Nat) : ExtX X a { w with drawn := n } := ⟨h.os, h.tape, h.output, h.size, h.block⟩
theorem Ext.alloc (w : World) (o : Obj) : Ext w (w.alloc o) := ⟨rfl, rfl, rfl, by simp, fun k hk _ => Below.heap_alloc w o k hk⟩
theorem ExtX.grown {X : Nat → Prop} {w w' : World} {row : Option Nat} (h : w.grownBy w' row) (hr : ∀ g, row = some g → X g) : ExtX X w w' :=
 ⟨h.os, h.tape, h.output, h.size, fun k hk hx => h.block k hk (fun e => hx (hr k e.symm))⟩
def At (w : World) : List Fct → Prop
 | [] => True
 | f :: r => (f.P w ∧ ∀ b, f.foot b → b < w.heap.size) ∧ At w r
structure New (w w' : World) (L : List Fct) : Prop where
 all : ∀ f ∈ L, f.P w' ∧ f.old = false ∧ ∀ b, f.foot b → w.heap.size ≤ b ∧ b < w'.heap.size
 dj : L.Pairwise Dj
theorem New.nil (w w' : World) : New w w' [] := ⟨by simp, .nil⟩
def Ret (w : World) (R : Value → List Fct → Prop) : Ending → World → Prop := fun e w' => ∃ v L, e = .returned v ∧ Ext w w' ∧ New w w' L ∧ R v L
structure Env where
 P : Program
 w0 : World
 /-- blocks of old that may be written -/
 X : Nat → Prop
 /-- how many slots -/
 N : Nat
 /-- the pointers that came in: block number k < n0 is A0 k -/
 n0 : Nat
 A0 : Nat → Nat
abbrev jA (P : Program) (w : World) (N : Nat) : Env := ⟨P, w, no, N, 0, fun _ => 0⟩
def SV.small (n : Nat) : SV → Prop
 | .v _ => True
 | .lit _ => True
 | .p k _ => k < n
 | .e .. => False
 | .f _ cap => ∀ x ∈ cap, x.1 < n
def SV.okT (n c : Nat) (w : World) : SV → Prop
 | .v _ => True
 | .lit _ => True
 | .p k _ => k < n
 | .e s ad cs _ => s ≤ c ∧ (s = c → ∀ j u, cs[j]? = some u → w.cell? (ad.add j) = some u)
 | .f _ cap => ∀ x ∈ cap, x.1 < n
def oH : List (Nat × SV) → Nat → Option SV
 | [], _ => none
 | (k, x) :: r, t => match Nat.beq k t with
   | true => some x
   | false => oH r t
def dP : List ((Nat × Nat) × SV) → Nat → Nat → Option SV
 | [], _, _ => none
 | ((k, o), x) :: r, k', o' => match Nat.beq k k' with
   | true => (match Nat.beq o o' with
     | true => some x
     | false => dP r k' o')
   | false => dP r k' o'
structure WD (E : Env) (A : Nat → Nat) (n : Nat) (B : List (Nat × TypeId × Nat)) (M : List ((Nat × Nat) × SV)) (F : List Fct) (w : World) : Prop where
 key : ∀ k ty sz, (k, ty, sz) ∈ B → k < n ∧ A k < w.heap.size ∧ (E.w0.heap.size ≤ A k ∨ E.X (A k)) ∧ ∃ cs, w.heap[A k]? = some (.cells cs ty (0, 0)) ∧ cs.size = sz
 inj : ∀ k ty sz k' ty' sz', (k, ty, sz) ∈ B → (k', ty', sz') ∈ B → A k = A k' → k = k'
 mem : ∀ k o v, dP M k o = some v → (∃ ty sz, (k, ty, sz) ∈ B) ∧ w.cell? ⟨A k, o, none⟩ = some (v.den A) ∧ v.small n
 a0 : ∀ k, k < E.n0 → A k = E.A0 k
 n0 : E.n0 ≤ n
 ext : ExtX E.X E.w0 w
 fct : ∀ f ∈ F, f.P w ∧ (∀ b, f.foot b → b < w.heap.size ∧ ∀ k ty sz, (k, ty, sz) ∈ B → A k ≠ b) ∧ (f.old = false → ∀ b, f.foot b → E.w0.heap.size ≤ b ∨ E.X b)
 dj : F.Pairwise Dj
structure TD (E : Env) (A : Nat → Nat) (T : List (Nat × SV)) (n c : Nat) (a : Act) (w : World) : Prop where
 size : a.tmps.size = E.N
 defers : a.defers = []
 tm : ∀ t v, oH T t = some v → a.tmps.getD t undef = v.den A ∧ v.okT n c w
inductive St where
 | mk (T : List (Nat × SV)) (n c : Nat) (B : List (Nat × TypeId × Nat)) (M : List ((Nat × Nat) × SV)) (F : List Fct)
def DenA (E : Env) (A : Nat → Nat) : St → Act → World → Prop
 | .mk T n c B M F, a, w => WD E A n B M F w ∧ TD E A T n c a w
def Den (E : Env) (s : St) (a : Act) (w : World) : Prop := ∃ A, DenA E A s a w
def Weak (E : Env) (s s' : St) : Prop := ∀ a w, Den E s a w → Den E s' a w
theorem Weak.refl (E : Env) (s : St) : Weak E s s := fun _ _ h => h
section small
variable {n m c : Nat} {w w' : World}
theorem SV.den_upd {A : Nat → Nat} {v : SV} (h : v.okT n c w) (g : Nat) (m : Nat) (hm : n ≤ m) : v.den (fun k => if k = m then g else A k) = v.den A := by
 cases v with
 | p k o => simp only [SV.okT] at h; simp [SV.den, ptr, show k ≠ m by omega]
 | f g cap =>
   simp only [SV.okT] at h
   simp only [SV.den]
   congr 2
   apply List.map_congr_left
   intro x hx
   have := h x hx
   simp [ptr, show x.1 ≠ m by omega]
 | _ => rfl
theorem SV.small_okT {v : SV} (h : v.small n) : v.okT n c w := by
 cases v <;> first | exact h | exact trivial | exact (h : False).elim
theorem SV.okT_step {v : SV} (h : v.okT n c w) (hn : n ≤ m) : v.okT m (c + 1) w' := by
 cases v with
 | p k o => exact Nat.lt_of_lt_of_le h hn
 | e s ad cs off => exact ⟨Nat.le_succ_of_le h.1, fun e => by have := h.1; omega⟩
 | f g cap => exact fun x hx => Nat.lt_of_lt_of_le (h x hx) hn
 | _ => trivial
theorem SV.small_more {v : SV} (h : v.small n) (hn : n ≤ m) : v.small m := by
 cases v with
 | p k o => exact Nat.lt_of_lt_of_le h hn
 | e s ad cs off => exact h.elim
 | f g cap => exact fun x hx => Nat.lt_of_lt_of_le (h x hx) hn
 | _ => trivial
end small
section
variable {X : Nat → Prop} {E : Env} {A : Nat → Nat} {T : List (Nat × SV)} {n c : Nat} {B : List (Nat × TypeId × Nat)} {M : List ((Nat × Nat) × SV)} {F : List Fct} {a : Act} {w w' : World}
theorem pI (d : Nat) (x : SV) (t : Nat) : oH ((d, x) :: T) t = if d = t then some x else oH T t := by
 simp only [oH]
 by_cases h : d = t
 · subst h; rw [Nat.beq_refl]; simp
 · rw [show Nat.beq d t = false from by rw [← Bool.not_eq_true]; intro e; exact h (Nat.eq_of_beq_eq_true e)]; simp [h]
theorem kW (k o : Nat) (x : SV) (k' o' : Nat) : dP (((k, o), x) :: M) k' o' = if k = k' ∧ o = o' then some x else dP M k' o' := by
 simp only [dP]
 by_cases h : k = k'
 · subst h
   rw [Nat.beq_refl]
   by_cases h2 : o = o'
   · subst h2; rw [Nat.beq_refl]; simp
   · rw [show Nat.beq o o' = false from by rw [← Bool.not_eq_true]; intro e; exact h2 (Nat.eq_of_beq_eq_true e)]; simp [h2]
 · rw [show Nat.beq k k' = false from by rw [← Bool.not_eq_true]; intro e; exact h (Nat.eq_of_beq_eq_true e)]; simp [h]
theorem TD.put (h : TD E A T n c a w) {d : Nat} {v : SV} (hd : d < E.N) (hv : v.okT n c w) : TD E A ((d, v) :: T) n c (a.put (some d) (v.den A)) w := by
 refine ⟨by simp [Act.put, h.size], h.defers, fun t x hx => ?_⟩
 rw [pI] at hx
 by_cases e : d = t
 · subst e
   simp at hx
   subst hx
   refine ⟨?_, hv⟩
   simp [Act.put, Array.getD_eq_getD_getElem?, h.size, hd]
 · simp [e] at hx
   obtain ⟨h1, h2⟩ := h.tm t x hx
   refine ⟨?_, h2⟩
   rw [← h1]
   simp [Act.put, Array.getD_eq_getD_getElem?, e]
theorem TD.step (h : TD E A T n c a w) (w' : World) : TD E A T n (c + 1) a w' :=
 ⟨h.size, h.defers, fun t v hv => ⟨(h.tm t v hv).1, SV.okT_step (h.tm t v hv).2 (Nat.le_refl _)⟩⟩
theorem TD.alloc (h : TD E A T n c a w) (g : Nat) (w' : World) : TD E (fun k => if k = n then g else A k) T (n + 1) (c + 1) a w' :=
 ⟨h.size, h.defers, fun t v hv => ⟨(h.tm t v hv).1.trans (SV.den_upd (h.tm t v hv).2 g n (Nat.le_refl _)).symm, SV.okT_step (h.tm t v hv).2 (Nat.le_succ _)⟩⟩
theorem Fct.keep {f : Fct} (h : f.P w) (hb : ∀ b, f.foot b → b < w.heap.size) (he : ExtX X w w') (hx : ∀ b, f.foot b → ¬ X b) : f.P w' :=
 f.st w w' (fun b hf => he.block b (hb b hf) (hx b hf)) h
theorem WD.grow (h : WD E A n B M F w) (he : ExtX X w w') (hA : ∀ k ty sz, (k, ty, sz) ∈ B → ¬ X (A k)) (hF : ∀ f ∈ F, ∀ b, f.foot b → ¬ X b) (hold : ∀ b, b < E.w0.heap.size → X b → E.X b) : WD E A n B M F w' := by
 refine ⟨?_, h.inj, ?_, h.a0, h.n0, h.ext.trans' he hold, ?_, h.dj⟩
 · intro k ty sz hk
   obtain ⟨h1, h2, h3, cs, h4, h5⟩ := h.key k ty sz hk
   exact ⟨h1, Nat.lt_of_lt_of_le h2 he.size, h3, cs, by rw [he.block _ h2 (hA k ty sz hk)]; exact h4, h5⟩
 · intro k o v hv
   obtain ⟨⟨ty, sz, hk⟩, h2, h3⟩ := h.mem k o v hv
   refine ⟨⟨ty, sz, hk⟩, ?_, h3⟩
   rw [← h2]
   exact World.cell?_of_block (he.block _ (h.key k ty sz hk).2.1 (hA k ty sz hk))
 · intro f hf
   obtain ⟨h1, h2, h3⟩ := h.fct f hf
   exact ⟨Fct.keep h1 (fun b hb => (h2 b hb).1) he (hF f hf), fun b hb => ⟨Nat.lt_of_lt_of_le (h2 b hb).1 he.size, (h2 b hb).2⟩, h3⟩
theorem WD.growExt (h : WD E A n B M F w) (he : Ext w w') : WD E A n B M F w' :=
 h.grow he (fun _ _ _ _ => fun h => h) (fun _ _ _ _ => fun h => h) (fun _ _ => False.elim)
theorem WD.learn (h : WD E A n B M F w) (he : Ext w w') {L : List Fct} (hL : New w w' L) : WD E A n B M (L ++ F) w' := by
 have h' := h.growExt he
 refine ⟨h'.key, h'.inj, h'.mem, h'.a0, h'.n0, h'.ext, ?_, ?_⟩
 · intro f hf
   rcases List.mem_append.1 hf with hf | hf
   · obtain ⟨h1, h2, h3⟩ := hL.all f hf
     refine ⟨h1, fun b hb => ⟨(h3 b hb).2, fun k ty sz hk e => ?_⟩, fun _ b hb => .inl (Nat.le_trans h.ext.size (h3 b hb).1)⟩
     have := (h.key k ty sz hk).2.1
     have := (h3 b hb).1
     omega
   · exact h'.fct f hf
 · rw [List.pairwise_append]
   refine ⟨hL.dj, h.dj, fun f hf g hg _ b hb hb' => ?_⟩
   have := (hL.all f hf).2.2 b hb
   have := ((h.fct g hg).2.1 b hb').1
   omega
theorem WD.sub (h : WD E A n B M F w) {F' : List Fct} (hs : F'.Sublist F) : WD E A n B M F' w :=
 ⟨h.key, h.inj, h.mem, h.a0, h.n0, h.ext, fun f hf => h.fct f (hs.subset hf), h.dj.sublist hs⟩
theorem WD.nth (h : WD E A n B M F w) (i : Nat) {f : Fct} (hi : F[i]? = some f) : f.P w ∧ ∀ b, f.foot b → b < w.heap.size :=
 ⟨(h.fct f (List.mem_of_getElem? hi)).1, fun b hb => ((h.fct f (List.mem_of_getElem? hi)).2.1 b hb).1⟩
end
end Go.Sx
namespace Go.Sx
open Go Go.RowKit
inductive TI where
 | none
 | mk (agg : Bool) (size : Nat) (zero : List Value) (fs : List (Nat × Nat × Bool)) (el : Option TypeId) (ik : Option IntKind) (kd : Nat) (bytes : Nat)
def mD : TypeDesc → Bool
 | .struct _ => true
 | .array .. => true
 | _ => false
def eB0 : TypeDesc → Nat
 | .bool => 1
 | .string => 2
 | .slice _ => 3
 | _ => 0
def iZ0 : TypeDesc → Option TypeId
 | .slice e => some e
 | _ => .none
def jA0 : TypeDesc → Option IntKind
 | .int k => some k
 | _ => .none
def eC0 (P : Program) : TypeDesc → List (Nat × Option Nat × Option Bool)
 | .struct fs => fs.toList.map fun f => (f.offset, (P.info? f.type).map (·.size), (P.underlying f.type).map mD)
 | _ => []
def aV (P : Program) (t : TypeId) : Option (Bool × Nat × Option (List Value) × List (Nat × Option Nat × Option Bool) × Option TypeId × Option IntKind × Nat × Nat) :=
 match P.info? t, P.underlying t with
 | some i, some d => some (mD d, i.size, i.zero.map (·.cells.toList), eC0 P d, iZ0 d, jA0 d, eB0 d, i.bytes)
 | _, _ => .none
def aT (P : Program) (t : TypeId) : TI → Prop
 | .none => True
 | .mk agg size zero fs el ik kd bytes => aV P t = some (agg, size, some zero, fs.map (fun x => (x.1, some x.2.1, some x.2.2)), el, ik, kd, bytes)
def aZ : List (Nat × TI) → Nat → TI
 | [], _ => .none
 | (k, x) :: r, t => match Nat.beq k t with
   | true => x
   | false => aZ r t
def TIall (P : Program) (tab : List (Nat × TI)) : Prop := ∀ p ∈ tab, aT P p.1 p.2
def bE0 (P : Program) : List (Nat × TI) → Prop
 | [] => True
 | p :: r => aT P p.1 p.2 ∧ bE0 P r
theorem TIall.of_R {P : Program} : ∀ {tab : List (Nat × TI)}, bE0 P tab → TIall P tab
 | [], _, p, hp => by cases hp
 | q :: r, h, p, hp => by
   rcases List.mem_cons.1 hp with rfl | hp
   · exact h.1
   · exact TIall.of_R h.2 p hp
theorem jB0 {P : Program} {tab : List (Nat × TI)} (h : TIall P tab) (t : Nat) : aT P t (aZ tab t) := by
 induction tab with
 | nil => trivial
 | cons p r ih =>
   obtain ⟨k, x⟩ := p
   simp only [aZ]
   by_cases e : k = t
   · subst e; rw [Nat.beq_refl]; exact h (k, x) (by simp)
   · rw [show Nat.beq k t = false from by rw [← Bool.not_eq_true]; intro e'; exact e (Nat.eq_of_beq_eq_true e')]
     exact ih fun p hp => h p (by simp [hp])
def nth {α : Type} : List α → Nat → Option α
 | [], _ => .none
 | x :: _, 0 => some x
 | _ :: r, n + 1 => nth r n
theorem mE {α : Type} (l : List α) (n : Nat) : nth l n = l[n]? := by
 induction l generalizing n with
 | nil => simp [nth]
 | cons x r ih => cases n <;> simp [nth, ih]
def wR {α : Type} : List α → Nat → List α
 | l, 0 => l
 | [], _ + 1 => []
 | _ :: r, n + 1 => wR r n
theorem zR {α : Type} (l : List α) (n : Nat) : wR l n = l.drop n := by
 induction l generalizing n with
 | nil => cases n <;> simp [wR]
 | cons x r ih => cases n <;> simp [wR, ih]
def SV.val? : SV → Option Value
 | .v x => some x
 | .lit b => some (.bool b)
 | _ => .none
theorem SV.val?_den {s : SV} {x : Value} (h : s.val? = some x) (A : Nat → Nat) : s.den A = x := by
 cases s <;> simp [SV.val?] at h <;> subst h <;> rfl
def aY (T : List (Nat × SV)) : Operand → Option SV
 | .tmp t => oH T t
 | .const v => (match v with
   | .bool b => some (.lit b)
   | x => some (.v x))
 | .func f => some (.f f [])
 | .global _ => .none
def oA (T : List (Nat × SV)) (x : Operand) : Option Value :=
 match aY T x with
 | some s => s.val?
 | .none => .none
def iK (T : List (Nat × SV)) : List Operand → Option (List SV)
 | [] => some []
 | x :: r => match aY T x with
   | some s => (match iK T r with
     | some l => some (s :: l)
     | .none => .none)
   | .none => .none
section
variable {E : Env} {A : Nat → Nat} {T : List (Nat × SV)} {n c : Nat} {B : List (Nat × TypeId × Nat)} {M : List ((Nat × Nat) × SV)} {F : List Fct} {a : Act} {w w' : World}
theorem aE (h : TD E A T n c a w) {x : Operand} {s : SV} (hx : aY T x = some s) : a.eval x = s.den A ∧ s.okT n c w := by
 cases x with
 | tmp t => exact h.tm t s hx
 | const v =>
   cases v <;> simp [aY] at hx <;> subst hx <;> exact ⟨rfl, trivial⟩
 | func f => simp [aY] at hx; subst hx; exact ⟨rfl, by simp [SV.okT]⟩
 | global g => simp [aY] at hx
theorem iB (h : TD E A T n c a w) {x : Operand} {u : Value} (hx : oA T x = some u) : a.eval x = u := by
 unfold oA at hx
 split at hx
 · rename_i s hs
   rw [(aE h hs).1]
   exact SV.val?_den hx A
 · cases hx
theorem iL (h : TD E A T n c a w) : ∀ {xs : List Operand} {l : List SV}, iK T xs = some l → xs.map a.eval = l.map (SV.den A)
 | [], l, hl => by simp [iK] at hl; subst hl; rfl
 | x :: r, l, hl => by
   simp only [iK] at hl
   split at hl
   · rename_i s hs
     split at hl
     · rename_i l' hl'
       simp at hl
       subst hl
       simp [(aE h hs).1, iL h hl']
     · cases hl
   · cases hl
end
def fW0 : IntKind → IntKind → Bool
 | .i8, .i8 | .i16, .i16 | .i32, .i32 | .i64, .i64 | .u8, .u8 | .u16, .u16 | .u32, .u32 | .u64, .u64 => true
 | _, _ => false
theorem fX0 {k k' : IntKind} (h : fW0 k k' = true) : k = k' := by cases k <;> cases k' <;> simp [fW0] at h <;> rfl
def lK0 (op : BinOp) (k : IntKind) (x y : Int) : Option Value :=
 match op with
 | .add => some (.int k (k.wrap (x + y)))
 | .sub => some (.int k (k.wrap (x - y)))
 | .mul => some (.int k (k.wrap (x * y)))
 | .eql => some (.bool (x == y))
 | .neq => some (.bool (x != y))
 | .lss => some (.bool (decide (x < y)))
 | .leq => some (.bool (decide (x ≤ y)))
 | .gtr => some (.bool (decide (x > y)))
 | .geq => some (.bool (decide (x ≥ y)))
 | _ => .none
def lL0 (kd : Nat) (op : BinOp) (x y : Value) : Option Value :=
 match x, y with
 | .int k a, .int k' b => (match fW0 k k' with
   | true => lK0 op k a b
   | false => .none)
 | .bool a, .bool b => (match kd with
   | 1 => (match op with
     | .eql => some (.bool (a == b))
     | .neq => some (.bool (a != b))
     | _ => .none)
   | _ => .none)
 | _, _ => .none
def jC0 : TI → Nat
 | .none => 0
 | .mk _ _ _ _ _ _ kd _ => kd
def lM0 : TI → Option IntKind
 | .none => .none
 | .mk _ _ _ _ _ ik _ _ => ik
theorem aP {P : Program} {t : TypeId} {agg : Bool} {size : Nat} {zero : List Value} {fs : List (Nat × Nat × Bool)} {el : Option TypeId} {ik : Option IntKind} {kd bytes : Nat} (h : aT P t (.mk agg size zero fs el ik kd bytes)) :
   ∃ i d z, P.info? t = some i ∧ P.underlying t = some d ∧ mD d = agg ∧ i.size = size ∧ i.zero = some z ∧ z.cells.toList = zero ∧ eC0 P d = fs.map (fun x => (x.1, some x.2.1, some x.2.2)) ∧ iZ0 d = el ∧ jA0 d = ik ∧ eB0 d = kd ∧ i.bytes = bytes := by
 unfold aT aV at h
 cases hi : P.info? t with
 | none => rw [hi] at h; simp at h
 | some i =>
   cases hd : P.underlying t with
   | none => rw [hi, hd] at h; simp at h
   | some d =>
     rw [hi, hd] at h
     simp at h
     obtain ⟨h1, h2, ⟨z, h3, h4⟩, h5, h6, h7, h8, h9⟩ := h
     exact ⟨i, d, z, rfl, rfl, h1, h2, h3, h4, h5, h6, h7, h8, h9⟩
theorem jD0 {d : TypeDesc} (h : eB0 d = 1) : d = .bool := by cases d <;> simp [eB0] at h <;> rfl
theorem eD0 {d : TypeDesc} (h : eB0 d = 2) : d = .string := by cases d <;> simp [eB0] at h <;> rfl
theorem fT {d : TypeDesc} {e : TypeId} (h : iZ0 d = some e) : d = .slice e := by cases d <;> simp [iZ0] at h; subst h; rfl
theorem fY0 {d : TypeDesc} {k : IntKind} (h : jA0 d = some k) : d = .int k := by cases d <;> simp [jA0] at h; subst h; rfl
theorem fZ0 {P : Program} {op : BinOp} {k : IntKind} {x y : Int} {v : Value} (t : TypeId) (h : lK0 op k x y = some v) (w : World) : (binOp op t (.int k x) (.int k y)).run P w = .ok v w := by
 cases op <;> simp [lK0] at h <;> subst h <;> simp [binOp, Op.intArith, Op.intCmp]
theorem dX {P : Program} {op : BinOp} {t : TypeId} {x y : Operand} {k k' : IntKind} {a b : Int} (w : World) : (eqGuard op t x y (.int k a) (.int k' b)).run P w = .ok () w := by
 cases op <;> rfl
theorem gA0 {P : Program} {op : BinOp} {t : TypeId} {ti : TI} (hti : aT P t ti) {x y : Operand} {a b v : Value} (h : lL0 (jC0 ti) op a b = some v) (w : World) :
   (do eqGuard op t x y a b; binOp op t a b : Sem Value).run P w = .ok v w := by
 unfold lL0 at h
 split at h
 · split at h
   · rename_i k a k' b hk
     obtain rfl := fX0 hk
     simp only [Sem.run_bind, dX, Result.andThen_ok, fZ0 t h w]
   · cases h
 · rename_i a b
   split at h
   · rename_i hkd
     have hu : P.underlying t = some .bool := by
       cases ti with
       | none => simp [jC0] at hkd
       | mk agg size zero fs el ik kd bytes =>
         obtain ⟨i, d, z, h1, h2, h3, h4, h5, h6, h7, h8, h9, h10, h11⟩ := aP hti
         simp [jC0] at hkd
         rw [h2, jD0 (h10.trans hkd)]
     have heq : (Op.equal t (.bool a) (.bool b)).run P w = .ok (a == b) w := by
       show (Op.equalIn (9999 + 1) t (.bool a) (.bool b)).run P w = _
       unfold Op.equalIn
       simp [underlying, hu]
     cases op <;> simp at h <;> subst h
     · show ((do let b ← Op.equal t (.bool a) (.bool b); pure (Value.bool b)) : Sem Value).run P w = _
       rw [Sem.run_bind, heq]; rfl
     · show ((do let b ← Op.equal t (.bool a) (.bool b); pure (Value.bool !b)) : Sem Value).run P w = _
       rw [Sem.run_bind, heq]; rfl
   · cases h
 · cases h
def mQ (M : List ((Nat × Nat) × SV)) (k : Nat) : Nat → Nat → Option (List Value)
 | _, 0 => some []
 | o, m + 1 => match dP M k o with
   | some s => (match s.val? with
     | some x => (match mQ M k (o + 1) m with
       | some r => some (x :: r)
       | none => none)
     | none => none)
   | none => none
def uQ {α : Type} : List α → Nat → Option (List α)
 | _, 0 => some []
 | [], _ + 1 => none
 | x :: r, n + 1 => match uQ r n with
   | some l => some (x :: l)
   | none => none
theorem uR {α : Type} : ∀ {l : List α} {n : Nat} {r : List α}, uQ l n = some r → r = l.take n ∧ r.length = n
 | l, 0, r, h => by
   have : r = [] := by cases l <;> simpa [uQ] using h.symm
   subst this; simp
 | [], n + 1, r, h => by simp [uQ] at h
 | x :: l, n + 1, r, h => by
   simp only [uQ] at h
   split at h
   · rename_i l' hl
     simp at h; subst h
     obtain ⟨h1, h2⟩ := uR hl
     subst h1
     simpa using h2
   · cases h
def bF0 : SV → Nat → Option SV
 | .p k o, off => some (.p k (o + off))
 | .e s ad cs o, off => some (.e s ad cs (o + off))
 | _, _ => none
def gB0 (T : List (Nat × SV)) (x : Operand) : Option SV := aY T x
def gC0 (T : List (Nat × SV)) (x y z : Operand) : Option SV :=
 match aY T x with
 | some (.lit true) => aY T y
 | some (.lit false) => aY T z
 | _ => none
def uS (T : List (Nat × SV)) (x : Operand) (i : Nat) : Option SV :=
 match aY T x with
 | some (.v (.tuple vs)) => (match nth vs.toList i with
   | some y => some (.v y)
   | none => none)
 | _ => none
def bG0 (ti : TI) (T : List (Nat × SV)) (x : Operand) (i : Nat) : Option SV :=
 match aY T x with
 | some (.v (.agg cs)) => (match ti with
   | .mk _ _ _ fs _ _ _ _ => (match nth fs i with
     | some (off, _, false) => (match nth cs.toList off with
       | some y => some (.v y)
       | none => none)
     | some (off, sz, true) => (match uQ (wR cs.toList off) sz with
       | some l => some (.v (.agg l.toArray))
       | none => none)
     | none => none)
   | _ => none)
 | _ => none
def qG (ti : TI) (T : List (Nat × SV)) (x : Operand) (i : Nat) : Option SV :=
 match ti with
 | .mk _ _ _ fs _ _ _ _ => (match nth fs i with
   | some (off, _ + 1, _) => (match aY T x with
     | some s => bF0 s off
     | none => none)
   | _ => none)
 | _ => none
def zS (ti : TI) (T : List (Nat × SV)) (c : Nat) (M : List ((Nat × Nat) × SV)) (x : Operand) : Option SV :=
 match ti with
 | .mk agg sz _ _ _ _ _ _ => (match aY T x with
   | some (.p k o) => (match agg with
     | true => (match mQ M k o sz with
       | some l => some (.v (.agg l.toArray))
       | none => none)
     | false => dP M k o)
   | some (.e s _ cs o) => (match Nat.beq s c with
     | true => (match agg with
       | true => (match uQ (wR cs o) sz with
         | some l => some (.v (.agg l.toArray))
         | none => none)
       | false => (match nth cs o with
         | some y => some (.v y)
         | none => none))
     | false => none)
   | _ => none)
 | _ => none
def lN0 (ti : TI) (T : List (Nat × SV)) (op : BinOp) (x y : Operand) : Option SV :=
 match oA T x with
 | some u => (match oA T y with
   | some v => (match lL0 (jC0 ti) op u v with
     | some r => some (.v r)
     | none => none)
   | none => none)
 | none => none
def pUn (T : List (Nat × SV)) (op : UnOp) (x : Operand) : Option SV :=
 match op with
 | .not => (match aY T x with
   | some (.lit true) => some (.lit false)
   | some (.lit false) => some (.lit true)
   | some (.v (.bool b)) => some (.v (.bool (!b)))
   | _ => none)
 | .neg => (match aY T x with
   | some (.v (.int k m)) => some (.v (.int k (k.wrap (0 - m))))
   | _ => none)
 | _ => none
def gD0 (ti : TI) (T : List (Nat × SV)) (x : Operand) : Option SV :=
 match lM0 ti with
 | some k => (match aY T x with
   | some (.v (.int _ m)) => some (.v (.int k (k.wrap m)))
   | _ => none)
 | none => none
def lO0 (T : List (Nat × SV)) (ti : TI) (x : Operand) : Option SV :=
 match aY T x with
 | some (.v (.slice _ m _)) => (match ti with
   | .mk _ _ _ _ (some _) _ _ _ => some (.v (.int .i64 (m : Int)))
   | _ => none)
 | _ => none
def uT (T : List (Nat × SV)) : List Operand → Option (List (Nat × Nat))
 | [] => some []
 | x :: r => match aY T x with
   | some (.p k o) => (match uT T r with
     | some l => some ((k, o) :: l)
     | none => none)
   | _ => none
def gE0 (T : List (Nat × SV)) (fn : Fn) (first cap : Array Operand) : Option SV :=
 match fn with
 | .func g => (match first.toList with
   | [] => (match uT T cap.toList with
     | some l => some (.f g l)
     | none => none)
   | _ => none)
 | _ => none
def lP0 (T : List (Nat × SV)) (x : Operand) : Option SV :=
 match aY T x with
 | some (.p k o) => some (.p k o)
 | some (.e s ad cs o) => some (.e s ad cs o)
 | _ => none
def oneB : Value → Bool
 | .agg _ => false
 | .tuple _ => false
 | _ => true
def yC : List Value → Bool
 | [] => true
 | x :: r => match oneB x with
   | true => yC r
   | false => false
def oI : Value → Option (List Value)
 | .agg cs => (match yC cs.toList with
   | true => some cs.toList
   | false => none)
 | .tuple _ => none
 | x => some [x]
def tF : List Value → Nat → List Value → List Value
 | l, _, [] => l
 | [], _, _ :: _ => []
 | _ :: r, 0, x :: xs => x :: tF r 0 xs
 | y :: r, n + 1, x :: xs => y :: tF r n (x :: xs)
def oJ (fs : List (Nat × Nat × Bool)) (T : List (Nat × SV)) : List Value → List (Nat × Operand) → Option (List Value)
 | cs, [] => some cs
 | cs, (i, x) :: r => match nth fs i with
   | some (off, sz, _) => (match oA T x with
     | some u => (match oI u with
       | some l => (match Nat.beq l.length sz with
         | true => (match Nat.ble (off + sz) cs.length with
           | true => oJ fs T (tF cs off l) r
           | false => none)
         | false => none)
       | none => none)
     | none => none)
   | none => none
def bH0 (ti : TI) (T : List (Nat × SV)) (ps : Array (Nat × Operand)) : Option SV :=
 match ti with
 | .mk _ _ zero (f :: fs) _ _ _ _ => (match oJ (f :: fs) T zero ps.toList with
   | some l => some (.v (.agg l.toArray))
   | none => none)
 | _ => none
def uU (ti : Nat → TI) (T : List (Nat × SV)) (c : Nat) (M : List ((Nat × Nat) × SV)) : Op → Option SV
 | .move x => gB0 T x
 | .assign x => gB0 T x
 | .pick x y z => gC0 T x y z
 | .extract x i => uS T x i
 | .field t x i => bG0 (ti t) T x i
 | .fieldAddr t x i => qG (ti t) T x i
 | .load t x => zS (ti t) T c M x
 | .binOp op t x y _ => lN0 (ti t) T op x y
 | .unOp op _ x => pUn T op x
 | .convert t0 t x => (match ti t0 with
   | .none => none
   | .mk .. => gD0 (ti t) T x)
 | .call k => (match k.callee with
   | .builtin .len => (match k.args.toList with
     | [x] => (match k.argTypes.toList with
       | [t] => lO0 T (ti t) x
       | _ => none)
     | _ => none)
   | _ => none)
 | .makeFunc fn first cap => gE0 T fn first cap
 | .nilCheck x => lP0 T x
 | .build t ps => bH0 (ti t) T ps
 | _ => none
section
variable {E : Env} {A : Nat → Nat} {T : List (Nat × SV)} {n c : Nat} {B : List (Nat × TypeId × Nat)} {M : List ((Nat × Nat) × SV)} {F : List Fct} {a : Act} {w w' : World}
def OKV (_E : Env) (A : Nat → Nat) (n c : Nat) (w : World) (r : Result Next) (s : SV) : Prop := r = .ok (.value (s.den A)) w ∧ s.okT n c w
theorem tG (h : TD E A T n c a w) {x : Operand} {s : SV} (hs : gB0 T x = some s) (o : Oper) (ho : o.op = .move x ∨ o.op = .assign x) : OKV E A n c w ((execOp a.eval o).run E.P w) s := by
 obtain ⟨h1, h2⟩ := aE h hs
 refine ⟨?_, h2⟩
 rcases ho with ho | ho <;> simp [execOp, ho, h1]
theorem zT (h : TD E A T n c a w) {x y z : Operand} {s : SV} (hs : gC0 T x y z = some s) (o : Oper) (ho : o.op = .pick x y z) : OKV E A n c w ((execOp a.eval o).run E.P w) s := by
 unfold gC0 at hs
 split at hs
 · rename_i hx
   have hb := (aE h hx).1
   obtain ⟨h1, h2⟩ := aE h hs
   exact ⟨by simp [execOp, ho, hb, h1, SV.den, asBool], h2⟩
 · rename_i hx
   have hb := (aE h hx).1
   obtain ⟨h1, h2⟩ := aE h hs
   exact ⟨by simp [execOp, ho, hb, h1, SV.den, asBool], h2⟩
 · cases hs
theorem uV (h : TD E A T n c a w) {x : Operand} {i : Nat} {s : SV} (hs : uS T x i = some s) (o : Oper) (ho : o.op = .extract x i) : OKV E A n c w ((execOp a.eval o).run E.P w) s := by
 unfold uS at hs
 split at hs
 · rename_i vs hx
   have hb := (aE h hx).1
   split at hs
   · rename_i y hy
     simp at hs; subst hs
     rw [mE] at hy
     exact ⟨by simp [execOp, ho, hb, SV.den, Instr.extract, show vs[i]? = some y by simpa using hy], trivial⟩
   · cases hs
 · cases hs
theorem qX {P : Program} {d : TypeDesc} {fs : List (Nat × Nat × Bool)} (h : eC0 P d = fs.map (fun x => (x.1, some x.2.1, some x.2.2))) {i off sz : Nat} {ag : Bool} (hi : nth fs i = some (off, sz, ag)) :
   ∃ (fields : Array Field) (f : Field) (fi : TypeInfo) (fd : TypeDesc), d = .struct fields ∧ fields[i]? = some f ∧ f.offset = off ∧ P.info? f.type = some fi ∧ fi.size = sz ∧ P.underlying f.type = some fd ∧ mD fd = ag := by
 rw [mE] at hi
 cases d <;> simp only [eC0] at h
 case struct fields =>
   have h' := congrArg (fun l => l[i]?) h
   simp only [List.getElem?_map, hi, Option.map_some] at h'
   cases hf : fields.toList[i]? with
   | none => rw [hf] at h'; simp at h'
   | some f =>
     rw [hf] at h'
     simp at h'
     obtain ⟨h1, ⟨fi, h2, h3⟩, fd, h4, h5⟩ := h'
     exact ⟨fields, f, fi, fd, rfl, by simpa using hf, h1, h2, h3, h4, h5⟩
 all_goals
   exfalso
   cases fs with
   | nil => simp at hi
   | cons x r => simp at h
theorem mR {P : Program} {t : TypeId} {d : TypeDesc} (h : P.underlying t = some d) (w : World) : (isAgg t).run P w = .ok (mD d) w := by
 unfold isAgg
 cases d <;> simp [underlying, h, mD]
theorem cM {P : Program} {t : TypeId} {i : TypeInfo} (h : P.info? t = some i) (w : World) : (sizeOf t).run P w = .ok i.size w := by simp [sizeOf, typeInfo, h]
theorem yD {ti : Nat → TI} (hti : ∀ t, aT E.P t (ti t)) (h : TD E A T n c a w) {t : TypeId} {x : Operand} {i : Nat} {s : SV} (hs : bG0 (ti t) T x i = some s) (o : Oper) (ho : o.op = .field t x i) : OKV E A n c w ((execOp a.eval o).run E.P w) s := by
 unfold bG0 at hs
 split at hs
 · rename_i cs hx
   have hb := (aE h hx).1
   split at hs
   · rename_i agg size zero fs el ik kd bytes hte
     have htt := hti t
     rw [hte] at htt
     obtain ⟨ii, d, z, e1, e2, e3, e4, e5, e6, e7, e8, e9, e10, e11⟩ := aP htt
     split at hs
     · rename_i off sz hf
       obtain ⟨fields, f, fi, fd, rfl, hfi, rfl, g1, g2, g3, g4⟩ := qX e7 hf
       split at hs
       · rename_i y hy
         simp at hs; subst hs
         rw [mE] at hy
         refine ⟨?_, trivial⟩
         simp [execOp, ho, hb, SV.den, Instr.field, underlying, e2, hfi, asAgg, part, mR g3, g4, show cs[f.offset]? = some y by simpa using hy]
       · cases hs
     · rename_i off sz hf
       obtain ⟨fields, f, fi, fd, rfl, hfi, rfl, g1, g2, g3, g4⟩ := qX e7 hf
       split at hs
       · rename_i l hl
         simp at hs; subst hs
         obtain ⟨t1, t2⟩ := uR hl
         rw [zR] at t1
         refine ⟨?_, trivial⟩
         have hex : cs.extract f.offset (f.offset + sz) = l.toArray := by
           apply Array.ext'
           rw [t1]
           simp [Array.toList_extract, List.extract_eq_take_drop]
         simp [execOp, ho, hb, SV.den, Instr.field, underlying, e2, hfi, asAgg, part, mR g3, g4, cM g1, g2, hex]
       · cases hs
     · cases hs
   · cases hs
 · cases hs
theorem yE (A : Nat → Nat) (k o off : Nat) : (⟨A k, o, none⟩ : Addr).add off = ⟨A k, o + off, none⟩ := by
 unfold Addr.add; split <;> simp_all
theorem gL (a : Addr) (i j : Nat) : (a.add i).add j = a.add (i + j) := by
 unfold Addr.add
 by_cases hi : i = 0 <;> by_cases hj : j = 0 <;> simp [hi, hj, Nat.add_assoc]
theorem bI0 {s : SV} {off : Nat} {r : SV} (h : bF0 s off = some r) (A : Nat → Nat) (n c : Nat) (w : World) : ∃ ad, s.den A = .pointer (some ad) ∧ r.den A = .pointer (some (ad.add off)) ∧ (s.okT n c w → r.okT n c w) := by
 cases s <;> simp [bF0] at h <;> subst h
 · exact ⟨_, rfl, by simp [SV.den, ptr, yE], fun h => h⟩
 · exact ⟨_, rfl, by simp [SV.den, gL], fun h => h⟩
theorem sN {ti : Nat → TI} (hti : ∀ t, aT E.P t (ti t)) (h : TD E A T n c a w) {t : TypeId} {x : Operand} {i : Nat} {s : SV} (hs : qG (ti t) T x i = some s) (o : Oper) (ho : o.op = .fieldAddr t x i) : OKV E A n c w ((execOp a.eval o).run E.P w) s := by
 unfold qG at hs
 split at hs
 · rename_i agg size zero fs el ik kd bytes hte
   have htt := hti t
   rw [hte] at htt
   obtain ⟨ii, d, z, e1, e2, e3, e4, e5, e6, e7, e8, e9, e10, e11⟩ := aP htt
   split at hs
   · rename_i off sz _ hf
     obtain ⟨fields, f, fi, fd, rfl, hfi, rfl, g1, g2, g3, g4⟩ := qX e7 hf
     split at hs
     · rename_i s0 hx
       obtain ⟨hb, hok⟩ := aE h hx
       obtain ⟨ad, k1, k2, k3⟩ := bI0 hs A n c w
       refine ⟨?_, k3 hok⟩
       simp [execOp, ho, hb, k1, k2, Instr.fieldAt, underlying, e2, hfi, Instr.sureAddr, fieldPlace, cM g1, g2]
     · cases hs
   · cases hs
 · cases hs
theorem qH (hM : ∀ k o v, dP M k o = some v → w.cell? ⟨A k, o, none⟩ = some (v.den A)) {k : Nat} : ∀ {o m : Nat} {l : List Value}, mQ M k o m = some l → l.length = m ∧ ∀ j u, l[j]? = some u → w.cell? ⟨A k, o + j, none⟩ = some u
 | o, 0, l, h => by simp [mQ] at h; subst h; simp
 | o, m + 1, l, h => by
   simp only [mQ] at h
   split at h
   · rename_i s hs
     split at h
     · rename_i x hx
       split at h
       · rename_i r hr
         simp at h
         subst h
         obtain ⟨h1, h2⟩ := qH hM hr
         refine ⟨by simp [h1], fun j u hj => ?_⟩
         cases j with
         | zero =>
           simp at hj; subst hj
           rw [Nat.add_zero, hM _ _ _ hs, SV.val?_den hx A]
         | succ j =>
           have := h2 j u (by simpa using hj)
           rwa [show o + 1 + j = o + (j + 1) by omega] at this
       · cases h
     · cases h
   · cases h
theorem oB {P : Program} {t : TypeId} {i : TypeInfo} {d : TypeDesc} (hi : P.info? t = some i) (hd : P.underlying t = some d) (ha : mD d = true) (ad : Addr) (l : List Value) (hl : l.length = i.size) (hc : ∀ j u, l[j]? = some u → w.cell? (ad.add j) = some u) :
   (loadVar t ad).run P w = .ok (.agg l.toArray) w := by
 simp only [loadVar, Sem.run_bind, mR hd, ha, Result.andThen_ok, if_true, cM hi, ← hl, run_loadCells_list w ad l hc, Sem.run_pure]
theorem fU {P : Program} {t : TypeId} {d : TypeDesc} (hd : P.underlying t = some d) (ha : mD d = false) (ad : Addr) (u : Value) (hc : w.cell? ad = some u) :
   (loadVar t ad).run P w = .ok u w := by
 simp [loadVar, mR hd, ha, hc]
theorem oK {ti : Nat → TI} (hti : ∀ t, aT E.P t (ti t)) (hM : ∀ k o v, dP M k o = some v → w.cell? ⟨A k, o, none⟩ = some (v.den A) ∧ v.small n) (h : TD E A T n c a w) {t : TypeId} {x : Operand} {s : SV} (hs : zS (ti t) T c M x = some s) (o : Oper) (ho : o.op = .load t x) : OKV E A n c w ((execOp a.eval o).run E.P w) s := by
 unfold zS at hs
 split at hs
 · rename_i agg size zero fs el ik kd bytes hte
   have htt := hti t
   rw [hte] at htt
   obtain ⟨ii, d, z, e1, e2, e3, e4, e5, e6, e7, e8, e9, e10, e11⟩ := aP htt
   split at hs
   · rename_i k off hx
     obtain ⟨hb, hok⟩ := aE h hx
     split at hs
     · split at hs
       · rename_i l hl
         simp at hs; subst hs
         obtain ⟨l1, l2⟩ := qH (fun k o v hv => (hM k o v hv).1) hl
         have hr := oB (w := w) e1 e2 e3 ⟨A k, off, none⟩ l (l1.trans e4.symm) (fun j u hj => by rw [yE]; exact l2 j u hj)
         refine ⟨?_, trivial⟩
         simp [execOp, ho, hb, SV.den, ptr, Instr.loadAt, Instr.sureAddr, hr]
       · cases hs
     · obtain ⟨m1, m2⟩ := hM _ _ _ hs
       have hr := fU (w := w) e2 e3 ⟨A k, off, none⟩ _ m1
       refine ⟨?_, SV.small_okT m2⟩
       simp [execOp, ho, hb, SV.den, ptr, Instr.loadAt, Instr.sureAddr, hr]
   · rename_i st ad cs off hx
     obtain ⟨hb, hok⟩ := aE h hx
     split at hs
     · rename_i hst
       have hcs := hok.2 (Nat.eq_of_beq_eq_true hst)
       split at hs
       · split at hs
         · rename_i l hl
           simp at hs; subst hs
           obtain ⟨t1, t2⟩ := uR hl
           rw [zR] at t1
           have hr := oB (w := w) e1 e2 e3 (ad.add off) l (t2.trans e4.symm) (fun j u hj => by
             rw [gL]
             rw [t1, List.getElem?_take] at hj
             split at hj
             · rw [List.getElem?_drop] at hj; exact hcs _ _ hj
             · cases hj)
           refine ⟨?_, trivial⟩
           simp [execOp, ho, hb, SV.den, Instr.loadAt, Instr.sureAddr, hr]
         · cases hs
       · split at hs
         · rename_i y hy
           simp at hs; subst hs
           rw [mE] at hy
           have hr := fU (w := w) e2 e3 (ad.add off) y (hcs _ _ hy)
           refine ⟨?_, trivial⟩
           simp [execOp, ho, hb, SV.den, Instr.loadAt, Instr.sureAddr, hr]
         · cases hs
     · cases hs
   · cases hs
 · cases hs
end
section
variable {E : Env} {A : Nat → Nat} {T : List (Nat × SV)} {n c : Nat} {B : List (Nat × TypeId × Nat)} {M : List ((Nat × Nat) × SV)} {F : List Fct} {a : Act} {w w' : World}
theorem bJ0 {ti : Nat → TI} (hti : ∀ t, aT E.P t (ti t)) (h : TD E A T n c a w) {op : BinOp} {t t' : TypeId} {x y : Operand} {s : SV} (hs : lN0 (ti t) T op x y = some s) (o : Oper) (ho : o.op = .binOp op t x y t') : OKV E A n c w ((execOp a.eval o).run E.P w) s := by
 unfold lN0 at hs
 split at hs
 · rename_i u hu
   split at hs
   · rename_i v hv
     split at hs
     · rename_i r hr
       simp at hs; subst hs
       have hrun := gA0 (hti t) (x := x) (y := y) hr w
       rw [Sem.run_bind] at hrun
       refine ⟨?_, trivial⟩
       simp only [execOp, ho, iB h hu, iB h hv, SV.den, Sem.run_bind, Sem.run_pure]
       cases hg : Sem.run E.P (eqGuard op t x y u v) w with
       | ok q w1 =>
         rw [hg] at hrun
         simp only [Result.andThen_ok] at hrun ⊢
         rw [hrun]; rfl
       | halt q w1 => rw [hg] at hrun; simp at hrun
     · cases hs
   · cases hs
 · cases hs
theorem eE0 (h : TD E A T n c a w) {op : UnOp} {t : TypeId} {x : Operand} {s : SV} (hs : pUn T op x = some s) (o : Oper) (ho : o.op = .unOp op t x) : OKV E A n c w ((execOp a.eval o).run E.P w) s := by
 unfold pUn at hs
 split at hs
 · split at hs
   · rename_i hx
     simp at hs; subst hs
     exact ⟨by simp [execOp, ho, (aE h hx).1, SV.den, Op.unary], trivial⟩
   · rename_i hx
     simp at hs; subst hs
     exact ⟨by simp [execOp, ho, (aE h hx).1, SV.den, Op.unary], trivial⟩
   · rename_i hx
     simp at hs; subst hs
     exact ⟨by simp [execOp, ho, (aE h hx).1, SV.den, Op.unary], trivial⟩
   · cases hs
 · split at hs
   · rename_i hx
     simp at hs; subst hs
     exact ⟨by simp [execOp, ho, (aE h hx).1, SV.den, Op.unary, Op.intArith], trivial⟩
   · cases hs
 · cases hs
theorem zU {ti : Nat → TI} (hti : ∀ t, aT E.P t (ti t)) (h : TD E A T n c a w) {t t0 : TypeId} {x : Operand} {s : SV} {d0 : TypeDesc} (hd0 : E.P.underlying t0 = some d0) (hs : gD0 (ti t) T x = some s) (o : Oper) (ho : o.op = .convert t0 t x) : OKV E A n c w ((execOp a.eval o).run E.P w) s := by
 unfold gD0 at hs
 split at hs
 · rename_i k hk
   have hd : E.P.underlying t = some (.int k) := by
     cases hte : ti t with
     | none => rw [hte] at hk; simp [lM0] at hk
     | mk agg size zero fs el ik kd bytes =>
       have htt := hti t
       rw [hte] at htt hk
       obtain ⟨ii, d, z, e1, e2, e3, e4, e5, e6, e7, e8, e9, e10, e11⟩ := aP htt
       simp [lM0] at hk
       rw [e2, fY0 (e9.trans hk)]
   split at hs
   · rename_i hx
     simp at hs; subst hs
     refine ⟨?_, trivial⟩
     simp [execOp, ho, (aE h hx).1, SV.den, convert, underlying, hd0, hd, Conv.intToInt]
   · cases hs
 · cases hs
theorem bK0 {ti : Nat → TI} (hti : ∀ t, aT E.P t (ti t)) (h : TD E A T n c a w) {t : TypeId} {x : Operand} {s : SV} (hs : lO0 T (ti t) x = some s) (o : Oper) (k : Call) (ho : o.op = .call k) (hk : k.callee = .builtin .len) (ha : k.args.toList = [x]) (hty : k.argTypes.toList = [t]) : OKV E A n c w ((execOp a.eval o).run E.P w) s := by
 unfold lO0 at hs
 split at hs
 · rename_i hx
   split at hs
   · rename_i e _ _ _ hte
     simp at hs; subst hs
     have htt := hti t
     rw [hte] at htt
     obtain ⟨ii, d, z, e1, e2, e3, e4, e5, e6, e7, e8, e9, e10, e11⟩ := aP htt
     have hd := fT e8
     have ha' : k.args = #[x] := by apply Array.ext'; simpa using ha
     have hty' : k.argTypes = #[t] := by apply Array.ext'; simpa using hty
     refine ⟨?_, trivial⟩
     simp [execOp, ho, resolve, hk, ha', hty', invoke, builtin, Builtin.len_, (aE h hx).1, SV.den, underlying, e2, hd, goInt]
   · cases hs
 · cases hs
theorem qY (h : TD E A T n c a w) : ∀ {xs : List Operand} {l : List (Nat × Nat)}, uT T xs = some l → xs.map a.eval = l.map (fun x => ptr A x.1 x.2) ∧ ∀ x ∈ l, x.1 < n
 | [], l, hl => by simp [uT] at hl; subst hl; simp
 | x :: r, l, hl => by
   simp only [uT] at hl
   split at hl
   · rename_i k o hx
     obtain ⟨h1, h2⟩ := aE h hx
     split at hl
     · rename_i l' hl'
       simp at hl; subst hl
       obtain ⟨h3, h4⟩ := qY h hl'
       refine ⟨by simp [h1, SV.den, h3], fun y hy => ?_⟩
       rcases List.mem_cons.1 hy with rfl | hy
       · exact h2
       · exact h4 y hy
     · cases hl
   · cases hl
theorem zV (h : TD E A T n c a w) {fn : Fn} {first cap : Array Operand} {s : SV} (hs : gE0 T fn first cap = some s) (o : Oper) (ho : o.op = .makeFunc fn first cap) : OKV E A n c w ((execOp a.eval o).run E.P w) s := by
 unfold gE0 at hs
 split at hs
 · split at hs
   · rename_i hf
     split at hs
     · rename_i l hl
       simp at hs; subst hs
       obtain ⟨h1, h2⟩ := qY h hl
       have hf' : first = #[] := by apply Array.ext'; simpa using hf
       have hc' : cap.map a.eval = (l.map (fun x => ptr A x.1 x.2)).toArray := by apply Array.ext'; simpa using h1
       refine ⟨?_, h2⟩
       simp [execOp, ho, Instr.makeFunc, hf', hc', SV.den]
     · cases hs
   · cases hs
 · cases hs
theorem bL0 (h : TD E A T n c a w) {x : Operand} {s : SV} (hs : lP0 T x = some s) (o : Oper) (ho : o.op = .nilCheck x) : OKV E A n c w ((execOp a.eval o).run E.P w) s := by
 unfold lP0 at hs
 split at hs
 · rename_i hx
   simp at hs; subst hs
   obtain ⟨h1, h2⟩ := aE h hx
   exact ⟨by simp [execOp, ho, h1, SV.den, ptr], h2⟩
 · rename_i hx
   simp at hs; subst hs
   obtain ⟨h1, h2⟩ := aE h hx
   exact ⟨by simp [execOp, ho, h1, SV.den], h2⟩
 · cases hs
theorem kX {u : Value} {l : List Value} (h : oI u = some l) : u.cells.toList = l ∧ ∀ x ∈ l, x.oneCell' = true := by
 have key : ∀ l : List Value, yC l = true → ∀ x ∈ l, x.oneCell' = true := by
   intro l
   induction l with
   | nil => intro _ x hx; cases hx
   | cons y r ih =>
     intro hl x hx
     simp only [yC] at hl
     split at hl
     · rename_i hy
       rcases List.mem_cons.1 hx with rfl | hx
       · cases x <;> simp [oneB] at hy <;> rfl
       · exact ih hl x hx
     · cases hl
 cases u <;> simp only [oI] at h
 case agg cs =>
   split at h
   · rename_i ha
     simp at h; subst h
     exact ⟨rfl, key _ ha⟩
   · cases h
 case tuple => cases h
 all_goals
   simp at h; subst h
   exact ⟨rfl, fun x hx => by simp at hx; subst hx; rfl⟩
theorem pJ : ∀ (l : List Value) (off : Nat) (xs : List Value), off + xs.length ≤ l.length → tF l off xs = l.take off ++ xs ++ l.drop (off + xs.length)
 | l, off, [], h => by cases l <;> cases off <;> simp [tF]
 | [], off, x :: xs, h => by simp at h
 | y :: r, 0, x :: xs, h => by
   have := pJ r 0 xs (by simp at h ⊢; omega)
   simp [tF, this]
 | y :: r, n + 1, x :: xs, h => by
   have := pJ r n (x :: xs) (by simp at h ⊢; omega)
   simp [tF, this, show n + 1 + (xs.length + 1) = n + (xs.length + 1) + 1 by omega]
theorem wS (off : Nat) : ∀ (xs : List Value) (j : Nat) (acc : Array Value), (List.foldl (fun (cs : Array Value) (x : Value × Nat) => cs.setIfInBounds (off + x.2) x.1) acc (xs.zipIdx j)).toList = List.foldl (fun (l : List Value) (x : Value × Nat) => l.set (off + x.2) x.1) acc.toList (xs.zipIdx j)
 | [], j, acc => rfl
 | x :: xs, j, acc => by
   simp only [List.zipIdx_cons, List.foldl_cons]
   rw [wS off xs (j + 1)]
   simp
theorem qZ : ∀ (xs : List Value) (j off : Nat) (l : List Value), off + j + xs.length ≤ l.length → (xs.zipIdx j).foldl (fun l (x : Value × Nat) => l.set (off + x.2) x.1) l = l.take (off + j) ++ xs ++ l.drop (off + j + xs.length)
 | [], j, off, l, h => by simp
 | x :: xs, j, off, l, h => by
   simp only [List.zipIdx_cons, List.foldl_cons]
   rw [qZ xs (j + 1) off _ (by simp at h ⊢; omega)]
   have hlt : off + j < l.length := by simp at h; omega
   have e1 : (l.set (off + j) x).take (off + (j + 1)) = l.take (off + j) ++ [x] := by
     rw [show off + (j + 1) = off + j + 1 by omega, List.take_add_one, List.take_set_of_le (Nat.le_refl _)]
     simp [hlt]
   have e2 : (l.set (off + j) x).drop (off + (j + 1) + xs.length) = l.drop (off + (j + 1) + xs.length) := by
     rw [List.drop_set_of_lt (by omega)]
   rw [e1, e2]
   simp [show off + (j + 1) + xs.length = off + j + (xs.length + 1) by omega]
theorem zW {cs : Array Value} {off : Nat} {u : Value} (hl : off + u.cells.size ≤ cs.size) : (u.cells.zipIdx.foldl (fun cs (c, j) => cs.setIfInBounds (off + j) c) cs).toList = tF cs.toList off u.cells.toList := by
 rw [pJ _ _ _ z80]
 rw [← Array.foldl_toList, Array.toList_zipIdx]
 have := wS off u.cells.toList 0 cs
 have h2 := qZ u.cells.toList 0 off cs.toList z80
 rw [h2] at this
 simpa using this
theorem oL (h : TD E A T n c a w) {fs : List (Nat × Nat × Bool)} {places : Nat → Option (Nat × Nat)} (hp : ∀ i off sz ag, nth fs i = some (off, sz, ag) → places i = some (off, sz)) :
   ∀ {ps : List (Nat × Operand)} {cs : Array Value} {l : List Value}, oJ fs T cs.toList ps = some l → Instr.fill places cs (ps.map fun x => (x.1, a.eval x.2)) = some l.toArray
 | [], cs, l, hl => by simp [oJ] at hl; subst hl; simp [Instr.fill]
 | (i, x) :: r, cs, l, hl => by
   simp only [oJ] at hl
   split at hl
   · rename_i off sz ag hf
     split at hl
     · rename_i u hu
       split at hl
       · rename_i lu hlu
         split at hl
         · rename_i hsz
           split at hl
           · rename_i hle
             obtain ⟨c1, c2⟩ := kX hlu
             have hsz' := Nat.eq_of_beq_eq_true hsz
             have hle' := Nat.le_of_ble_eq_true hle
             have hus : u.cells.size = sz := by rw [← hsz', ← c1]; simp
             have hle2 : off + u.cells.size ≤ cs.size := by simpa [hus] using hle'
             have hset := zW (cs := cs) (off := off) (u := u) hle2
             rw [c1] at hset
             rw [← hset] at hl
             have ih := oL h hp hl
             simp only [List.map_cons, Instr.fill, hp _ _ _ _ hf, iB h hu]
             rw [if_neg (by simp [hus]; simpa [hus] using hle2)]
             exact ih
           · cases hl
         · cases hl
       · cases hl
     · cases hl
   · cases hl
theorem oC {P : Program} {w : World} : ∀ (fields : List Field) (fs : List (Nat × Nat × Bool)), fields.map (fun f => (f.offset, (P.info? f.type).map (·.size), (P.underlying f.type).map mD)) = fs.map (fun x => (x.1, some x.2.1, some x.2.2)) →
   (fields.mapM (fun f => do pure (f.offset, ← sizeOf f.type) : Field → Sem (Nat × Nat))).run P w = .ok (fs.map fun x => (x.1, x.2.1)) w
 | [], fs, h => by
   cases fs with
   | nil => simp
   | cons x r => simp at h
 | f :: fields, fs, h => by
   cases fs with
   | nil => simp at h
   | cons x r =>
     simp only [List.map_cons, List.cons.injEq, Prod.mk.injEq] at h
     obtain ⟨⟨h1, h2, h3⟩, h4⟩ := h
     cases hi : P.info? f.type with
     | none => rw [hi] at h2; simp at h2
     | some fi =>
       rw [hi] at h2
       simp at h2
       have ih := oC (w := w) fields r h4
       simp only [List.mapM_cons, Sem.run_bind, cM hi, Result.andThen_ok, Sem.run_pure, ih, List.map_cons, h1, h2]
theorem yF {ti : Nat → TI} (hti : ∀ t, aT E.P t (ti t)) (h : TD E A T n c a w) {t : TypeId} {ps : Array (Nat × Operand)} {s : SV} (hs : bH0 (ti t) T ps = some s) (o : Oper) (ho : o.op = .build t ps) : OKV E A n c w ((execOp a.eval o).run E.P w) s := by
 unfold bH0 at hs
 split at hs
 · rename_i agg size zero f0 fs0 el ik kd bytes hte
   have htt := hti t
   rw [hte] at htt
   obtain ⟨ii, d, z, e1, e2, e3, e4, e5, e6, e7, e8, e9, e10, e11⟩ := aP htt
   split at hs
   · rename_i l hl
     simp at hs; subst hs
     obtain ⟨fields, hfl⟩ : ∃ fields, d = .struct fields := by
       cases d <;> simp [eC0] at e7 <;> exact ⟨_, rfl⟩
     subst hfl
     simp only [eC0] at e7
     have hplaces := oC (w := w) _ _ e7
     have hpl2 : ∀ i off sz ag, nth (f0 :: fs0) i = some (off, sz, ag) → (((f0 :: fs0).map fun x => (x.1, x.2.1)).toArray)[i]? = some (off, sz) := by
       intro i off sz ag hi
       rw [mE] at hi
       rw [List.getElem?_toArray, List.getElem?_map, hi]
       rfl
     rw [← e6] at hl
     have hfill := oL h hpl2 hl
     have hmap : (fields.mapM (fun f => do pure (f.offset, ← sizeOf f.type) : Field → Sem (Nat × Nat))).run E.P w = .ok (((f0 :: fs0).map fun x => (x.1, x.2.1)).toArray) w := by
       rw [← Array.toArray_toList (xs := fields), List.mapM_toArray]
       simp only [Sem.run_map, hplaces, Result.andThen_ok]
     refine ⟨?_, trivial⟩
     have hps : (ps.map fun (x : Nat × Operand) => (x.1, a.eval x.2)).toList = ps.toList.map fun x => (x.1, a.eval x.2) := by simp
     simp only [execOp, ho, Instr.build, Sem.run_bind, zeroValue, typeInfo, underlying, run_program, Result.andThen_ok, e1, e5, e2, Sem.run_pure, hmap, hps]
     rw [hfill]
     rfl
   · cases hs
 · cases hs
theorem oM {ti : Nat → TI} (hti : ∀ t, aT E.P t (ti t)) (hM : ∀ k o v, dP M k o = some v → w.cell? ⟨A k, o, none⟩ = some (v.den A) ∧ v.small n) (h : TD E A T n c a w) {o : Oper} {s : SV} (hs : uU ti T c M o.op = some s) : OKV E A n c w ((execOp a.eval o).run E.P w) s := by
 cases hop : o.op <;> rw [hop] at hs <;> simp only [uU] at hs <;> try (cases hs; done)
 · exact tG h hs o (.inl hop)
 · exact tG h hs o (.inr hop)
 · exact zT h hs o hop
 · exact yF hti h hs o hop
 · exact oK hti hM h hs o hop
 · exact bL0 h hs o hop
 · exact bJ0 hti h hs o hop
 · exact eE0 h hs o hop
 · rename_i t0 t x
   split at hs
   · cases hs
   · rename_i agg size zero fs el ik kd bytes hte
     have htt := hti t0
     rw [hte] at htt
     obtain ⟨ii, d, z, e1, e2, _⟩ := aP htt
     exact zU hti h e2 hs o hop
 · exact zV h hs o hop
 · exact sN hti h hs o hop
 · exact yD hti h hs o hop
 · exact uV h hs o hop
 · rename_i k
   split at hs
   · rename_i hk
     split at hs
     · rename_i x hx
       split at hs
       · rename_i t ht
         exact bK0 hti h hs o k hop hk hx ht
       · cases hs
     · cases hs
   · cases hs
end
abbrev fSl (old : Bool) (i : Sl) (sz : Nat) (cs : List Value) (n : Nat) : Fct := .sl old i sz cs n
abbrev gX (old : Bool) (i : Sl) (e sz : Nat) (cs : List Value) (n : Nat) : Fct := .own old i e sz cs n
theorem mS {w : World} {i : Sl} {e sz n : Nat} {cs : List Value} (h : w.ownsRow 0 e sz (i.val n) n cs) :
   (i.a = none ∧ n = 0 ∧ i.c = 0 ∧ cs = []) ∨ ∃ g cur, i.a = some ⟨g, 0, none⟩ ∧ w.heap[g]? = some (.cells cur e (0, 0)) ∧ n ≤ i.c ∧ i.c ≤ maxLen ∧ cur.size = i.c * sz ∧ cur.toList.take (n * sz) = cs := by
 rcases h.2 with ⟨hv, hn⟩ | ⟨g, cap, cur, hv, hg, hh, h1, h2, h3, h4⟩
 · simp only [Sl.val] at hv
   injection hv with h1 h2 h3
   refine .inl ⟨h1, hn, h3, ?_⟩
   have := h.1
   rw [hn, Nat.zero_mul] at this
   exact List.eq_nil_of_length_eq_zero this
 · simp only [Sl.val] at hv
   injection hv with e1 e2 e3
   subst e3
   exact .inr ⟨g, cur, e1, hh, h1, h2, h3, h4⟩
theorem nJ {w : World} {i : Sl} {e sz n : Nat} {cs : List Value} (h : w.ownsRow 0 e sz (i.val n) n cs) : RdS w i sz cs n := by
 rcases mS h with ⟨h1, h2, h3, h4⟩ | ⟨g, cur, h1, h2, h3, h4, h5, h6⟩
 · subst h2; subst h4
   exact ⟨by simp, by omega, by rw [h3]; simp [maxLen], fun h => by omega⟩
 · refine ⟨h.1, h3, h4, fun hn => ⟨_, h1, fun j u hu => ?_⟩⟩
   exact h.cells (g := g) (by simp [Value.ownBlock, Sl.val, h1]) j u hu
theorem WD.rd {E : Env} {A : Nat → Nat} {n : Nat} {B : List (Nat × TypeId × Nat)} {M : List ((Nat × Nat) × SV)} {F : List Fct} {w : World} (h : WD E A n B M F w) (k : Nat) {old o2 : Bool} {i : Sl} {sz m : Nat} {cs : List Value} (hi : F[k]? = some (fSl old i sz cs m)) :
   (fSl o2 i sz cs m).P w ∧ ∀ b, (fSl o2 i sz cs m).foot b → b < w.heap.size :=
 ⟨(h.nth k hi).1, fun b hb => (h.nth k hi).2 b hb⟩
theorem WD.rdOwn {E : Env} {A : Nat → Nat} {n : Nat} {B : List (Nat × TypeId × Nat)} {M : List ((Nat × Nat) × SV)} {F : List Fct} {w : World} (h : WD E A n B M F w) (k : Nat) {old o2 : Bool} {i : Sl} {e sz m : Nat} {cs : List Value} (hi : F[k]? = some (gX old i e sz cs m)) :
   (fSl o2 i sz cs m).P w ∧ ∀ b, (fSl o2 i sz cs m).foot b → b < w.heap.size :=
 ⟨nJ (h.nth k hi).1, fun b hb => (h.nth k hi).2 b hb.2⟩
def eY (k : Nat) : Nat → List SV → List ((Nat × Nat) × SV) → List ((Nat × Nat) × SV)
 | _, [], M => M
 | o, x :: r, M => eY k (o + 1) r (((k, o), x) :: M)
def jW (k : Nat) : Nat → List SV → List ((Nat × Nat) × SV) → (List ((Nat × Nat) × SV) → Prop) → Prop
 | _, [], M, K => K M
 | o, x :: r, M, K => jW k (o + 1) r (((k, o), x) :: M) K
theorem fV (k : Nat) : ∀ (o : Nat) (l : List SV) (M : List ((Nat × Nat) × SV)) (K : List ((Nat × Nat) × SV) → Prop), jW k o l M K = K (eY k o l M)
 | _, [], _, _ => rfl
 | o, x :: r, M, K => by simp only [jW, eY]; exact fV k (o + 1) r _ K
theorem cZ (k : Nat) : ∀ (l : List SV) (o : Nat) (M : List ((Nat × Nat) × SV)) (k' o' : Nat), dP (eY k o l M) k' o' = if k = k' ∧ o ≤ o' ∧ o' < o + l.length then l[o' - o]? else dP M k' o'
 | [], o, M, k', o' => by
   simp only [eY, List.length_nil, Nat.add_zero]
   rw [if_neg (by omega)]
 | x :: r, o, M, k', o' => by
   simp only [eY]
   rw [cZ k r (o + 1), kW]
   simp only [List.length_cons]
   by_cases h1 : k = k'
   · subst h1
     by_cases h2 : o = o'
     · subst h2
       simp [show ¬ (o + 1 ≤ o) by omega]
     · by_cases h3 : o + 1 ≤ o' ∧ o' < o + 1 + r.length
       · simp only [true_and]
         rw [if_pos h3, if_pos (by omega), show o' - o = (o' - (o + 1)) + 1 by omega, List.getElem?_cons_succ]
       · simp only [true_and]
         rw [if_neg h3]; simp only [h2, if_false]; rw [if_neg (by omega)]
   · simp [h1]
def iM : SV → Option (List SV)
 | .v u => (match oI u with
   | some l => some (l.map .v)
   | none => none)
 | .lit b => some [.lit b]
 | .p k o => some [.p k o]
 | .f g cap => some [.f g cap]
 | .e .. => none
def uW : List (Nat × TypeId × Nat) → Nat → Option Nat
 | [], _ => none
 | (k, _, sz) :: r, k' => match Nat.beq k k' with
   | true => some sz
   | false => uW r k'
theorem pK : ∀ {B : List (Nat × TypeId × Nat)} {k sz : Nat}, uW B k = some sz → ∃ t, (k, t, sz) ∈ B
 | [], k, sz, h => by simp [uW] at h
 | (k', t, s) :: r, k, sz, h => by
   simp only [uW] at h
   split at h
   · rename_i hk
     simp at h; subst h
     exact ⟨t, by rw [Nat.eq_of_beq_eq_true hk]; simp⟩
   · obtain ⟨t', ht⟩ := pK h
     exact ⟨t', by simp [ht]⟩
section
variable {E : Env} {A : Nat → Nat} {T : List (Nat × SV)} {n c : Nat} {B : List (Nat × TypeId × Nat)} {M : List ((Nat × Nat) × SV)} {F : List Fct} {a : Act} {w w' : World}
theorem iN {s : SV} {l : List SV} (h : iM s = some l) (hs : s.okT n c w) : (s.den A).cells.toList = l.map (SV.den A) ∧ (∀ x ∈ l, x.small n) ∧ ∀ x ∈ l, (x.den A).oneCell' = true := by
 cases s with
 | v u =>
   simp only [iM] at h
   split at h
   · rename_i l' hl
     simp at h; subst h
     obtain ⟨h1, h2⟩ := kX hl
     refine ⟨?_, ?_, ?_⟩
     · show u.cells.toList = _
       rw [h1, List.map_map]
       exact (List.map_id' l').symm
     · intro x hx
       obtain ⟨y, _, rfl⟩ := List.mem_map.1 hx
       trivial
     · intro x hx
       obtain ⟨y, hy, rfl⟩ := List.mem_map.1 hx
       exact h2 y hy
   · cases h
 | lit b => simp [iM] at h; subst h; exact ⟨rfl, by simp [SV.small], by simp [SV.den]; rfl⟩
 | p k o => simp [iM] at h; subst h; exact ⟨rfl, by simp; exact hs, by simp [SV.den, ptr]; rfl⟩
 | f g cap => simp [iM] at h; subst h; exact ⟨rfl, by simp; exact hs, by simp [SV.den]; rfl⟩
 | e _ _ _ _ => simp [iM] at h
theorem WD.alloc (h : WD E A n B M F w) {l : List SV} (hl : ∀ x ∈ l, x.small n) (t : TypeId) :
   WD E (fun k => if k = n then w.heap.size else A k) (n + 1) ((n, t, l.length) :: B) (eY n 0 l M) F (w.alloc (.cells (l.map (SV.den A)).toArray t)) := by
 have hold : ∀ k ty sz, (k, ty, sz) ∈ B → k ≠ n := fun k ty sz hk => by have := (h.key k ty sz hk).1; omega
 have hex := Ext.alloc w (.cells (l.map (SV.den A)).toArray t)
 refine ⟨?_, ?_, ?_, ?_, Nat.le_succ_of_le h.n0, h.ext.trans hex.any, ?_, h.dj⟩
 · intro k ty sz hk
   rcases List.mem_cons.1 hk with hk | hk
   · simp only [Prod.mk.injEq] at hk
     obtain ⟨rfl, rfl, rfl⟩ := hk
     simp only [if_true]
     exact ⟨Nat.lt_succ_self _, by simp, .inl h.ext.size, _, heap_alloc_new w _, by simp⟩
   · obtain ⟨h1, h2, h3, cs, h4, h5⟩ := h.key k ty sz hk
     simp only [if_neg (hold k ty sz hk)]
     exact ⟨by omega, by simp; omega, h3, cs, by rw [Below.heap_alloc _ _ _ h2]; exact h4, h5⟩
 · intro k ty sz k' ty' sz' hk hk' he
   rcases List.mem_cons.1 hk with hk | hk <;> rcases List.mem_cons.1 hk' with hk' | hk'
   · simp only [Prod.mk.injEq] at hk hk'; omega
   · simp only [Prod.mk.injEq] at hk
     simp only [hk.1, if_true, if_neg (hold _ _ _ hk')] at he
     have := (h.key _ _ _ hk').2.1
     omega
   · simp only [Prod.mk.injEq] at hk'
     simp only [hk'.1, if_true, if_neg (hold _ _ _ hk)] at he
     have := (h.key _ _ _ hk).2.1
     omega
   · simp only [if_neg (hold _ _ _ hk), if_neg (hold _ _ _ hk')] at he
     exact h.inj _ _ _ _ _ _ hk hk' he
 · intro k o v hv
   rw [cZ] at hv
   split at hv
   · rename_i hc
     obtain ⟨rfl, _, hc3⟩ := hc
     simp only [Nat.sub_zero] at hv
     have hm : v ∈ l := List.mem_of_getElem? hv
     refine ⟨⟨t, l.length, by simp⟩, ?_, SV.small_more (hl v hm) (Nat.le_succ _)⟩
     simp only [if_true]
     rw [cell_of_row _ _ _ _ _ _ (heap_alloc_new w _), SV.den_upd (SV.small_okT (c := 0) (w := w) (hl v hm)) _ _ (Nat.le_refl _)]
     simp [hv]
   · obtain ⟨⟨ty, sz, hk⟩, h2, h3⟩ := h.mem k o v hv
     refine ⟨⟨ty, sz, by simp [hk]⟩, ?_, SV.small_more h3 (Nat.le_succ _)⟩
     simp only [if_neg (hold _ _ _ hk)]
     rw [SV.den_upd (SV.small_okT (c := 0) (w := w) h3) _ _ (Nat.le_refl _), ← h2]
     exact World.cell?_of_block (Below.heap_alloc _ _ _ (h.key _ _ _ hk).2.1)
 · intro k hk
   have hk' := h.n0
   simp only [if_neg (show k ≠ n by omega)]
   exact h.a0 k hk
 · intro f hf
   obtain ⟨h1, h2, h3⟩ := h.fct f hf
   refine ⟨Fct.keep h1 (fun b hb => (h2 b hb).1) hex (fun _ _ h => h), fun b hb => ⟨by simp; exact Nat.lt_succ_of_lt (h2 b hb).1, fun k ty sz hk => ?_⟩, h3⟩
   rcases List.mem_cons.1 hk with hk | hk
   · simp only [Prod.mk.injEq] at hk
     simp only [hk.1, if_true]
     have := (h2 b hb).1
     omega
   · simp only [if_neg (hold _ _ _ hk)]
     exact (h2 b hb).2 k ty sz hk
theorem WD.store (h : WD E A n B M F w) {k o sz : Nat} {ty : TypeId} (hk : (k, ty, sz) ∈ B) {l : List SV} (hl : ∀ x ∈ l, x.small n) (h1 : ∀ x ∈ l, (x.den A).oneCell' = true) (hle : o + l.length ≤ sz) (P : Program) :
   ∃ w', (storeCells ⟨A k, o, none⟩ (l.map (SV.den A))).run P w = .ok () w' ∧ WD E A n B (eY k o l M) F w' := by
 obtain ⟨hk1, hk2, hk3, cs, hk4, hk5⟩ := h.key k ty sz hk
 have hrun := run_storeCells_at (P := P) (A k) o ty (l.map (SV.den A)) 0 cs w hk4 z87 (fun v hv => by
   obtain ⟨x, hx, rfl⟩ := List.mem_map.1 hv
   exact h1 x hx)
 refine ⟨_, hrun, ?_⟩
 simp only [Nat.add_zero]
 generalize hcs' : (List.take o cs.toList ++ List.map (SV.den A) l ++ List.drop (o + (List.map (SV.den A) l).length) cs.toList).toArray = cs'
 have hsz : cs'.size = sz := by rw [← hcs']; simp; omega
 have hnew : (w.setRow (A k) cs').heap[A k]? = some (.cells cs' ty (0, 0)) := setRow_heap w (A k) cs cs' ty (0, 0) hk4
 have hother : ∀ b, b ≠ A k → (w.setRow (A k) cs').heap[b]? = w.heap[b]? := fun b hb => by
   simp only [World.setRow, Array.getElem?_modify]
   rw [if_neg (fun e => hb e.symm)]
 have hhsz : (w.setRow (A k) cs').heap.size = w.heap.size := by simp [World.setRow]
 have hex : ExtX (fun b => b = A k) w (w.setRow (A k) cs') := ⟨rfl, rfl, rfl, by rw [hhsz]; exact Nat.le_refl _, fun b _ hb => hother b hb⟩
 refine ⟨?_, h.inj, ?_, h.a0, h.n0, h.ext.trans' hex (fun i hi e => ?_), ?_, h.dj⟩
 · intro k' ty' sz' hk'
   obtain ⟨g1, g2, g3, cs2, g4, g5⟩ := h.key k' ty' sz' hk'
   refine ⟨g1, by rw [hhsz]; exact g2, g3, ?_⟩
   by_cases e : A k' = A k
   · rw [e, hk4] at g4
     simp only [Option.some.injEq, Obj.cells.injEq] at g4
     obtain ⟨rfl, rfl, _⟩ := g4
     exact ⟨cs', by rw [e]; exact hnew, by omega⟩
   · exact ⟨cs2, by rw [hother _ e]; exact g4, g5⟩
 · intro k' o' v hv
   rw [cZ] at hv
   split at hv
   · rename_i hc
     obtain ⟨rfl, hc2, hc3⟩ := hc
     have hm : v ∈ l := List.mem_of_getElem? hv
     refine ⟨⟨ty, sz, hk⟩, ?_, hl v hm⟩
     rw [cell_of_row _ _ _ _ _ _ hnew, ← hcs']
     simp only [List.getElem?_toArray]
     rw [List.append_assoc, List.getElem?_append_right z87, List.getElem?_append_left z87]
     have : o' - (List.take o cs.toList).length = o' - o := by simp; omega
     rw [this, List.getElem?_map, hv]; rfl
   · rename_i hc
     obtain ⟨⟨ty', sz', hk'⟩, g2, g3⟩ := h.mem k' o' v hv
     refine ⟨⟨ty', sz', hk'⟩, ?_, g3⟩
     by_cases e : A k' = A k
     · have ek : k' = k := h.inj _ _ _ _ _ _ hk' hk e
       subst ek
       rw [cell_of_row _ _ _ _ _ _ hk4] at g2
       rw [cell_of_row _ _ _ _ _ _ hnew, ← hcs', ← g2]
       simp only [List.getElem?_toArray]
       have hlen : o ≤ cs.size := by omega
       by_cases h3 : o' < o
       · rw [List.append_assoc, List.getElem?_append_left z87, List.getElem?_take]
         simp [h3]
       · have h4 : o + l.length ≤ o' := by
           rcases Nat.lt_or_ge o' (o + l.length) with h5 | h5
           · exact absurd ⟨rfl, by omega, h5⟩ hc
           · exact h5
         rw [List.getElem?_append_right z87, List.getElem?_drop]
         simp only [List.length_append, List.length_take, List.length_map, Array.length_toList, Array.getElem?_toList]
         congr 1
         omega
     · rw [← g2]
       exact World.cell?_of_block (hother _ e)
 · subst e
   rcases hk3 with hk3 | hk3
   · omega
   · exact hk3
 · intro f hf
   obtain ⟨g1, g2, g3⟩ := h.fct f hf
   exact ⟨Fct.keep g1 (fun b hb => (g2 b hb).1) hex (fun b hb e => (g2 b hb).2 k ty sz hk e.symm), fun b hb => ⟨by rw [hhsz]; exact (g2 b hb).1, (g2 b hb).2⟩, g3⟩
end
structure CaseB (b : Bool) (X Y : Prop) : Prop where
 t : b = true → X
 f : b = false → Y
structure AllSl (p : Sl → Prop) : Prop where
 out : ∀ y, p y
structure OpW (p : Prop) : Prop where
 out : p
structure LoopW (p : Prop) : Prop where
 out : p
structure DrawW (p : Prop) : Prop where
 out : p
structure RetW (p : Prop) : Prop where
 out : p
def cQ (E : Env) (o : Oper) (next : St → Prop) (T : List (Nat × SV)) (n c : Nat) (B : List (Nat × TypeId × Nat)) (M : List ((Nat × Nat) × SV)) (F : List Fct) : Prop :=
 ∀ A a w, WD E A n B M F w → TD E A T n c a w → o.wp E.P a w (fun a' w' => ∃ s', Den E s' a' w' ∧ next s') (fun _ _ _ => False)
def oN (T : List (Nat × SV)) (esz : Nat) : Nat → List (Nat × Operand) → Option (List Value)
 | _, [] => some []
 | i, (j, x) :: r => match Nat.beq i j with
   | true => (match oA T x with
     | some u => (match oI u with
       | some l => (match Nat.beq l.length esz with
         | true => (match oN T esz (i + 1) r with
           | some q => some (l ++ q)
           | none => none)
         | false => none)
       | none => none)
     | none => none)
   | false => none
def dO {α : Type} : List α → Nat
 | [] => 0
 | _ :: r => Nat.succ (dO r)
theorem dN {α : Type} (l : List α) : dO l = l.length := by
 induction l with
 | nil => rfl
 | cons x r ih => simp [dO, ih]
def gF0 (E : Env) (ti : Nat → TI) (o : Oper) (next : St → Prop) (T : List (Nat × SV)) (n c : Nat) (B : List (Nat × TypeId × Nat)) (M : List ((Nat × Nat) × SV)) (F : List Fct) : Op → Prop
 | .alloc t => (match ti t with
   | .mk _ sz zero _ _ _ _ _ => (match o.dst with
     | some d => (match Nat.blt d E.N with
       | true => (match Nat.beq (dO zero) sz with
         | true => jW n 0 (zero.map .v) M fun M' => next (.mk ((d, .p n 0) :: T) (n + 1) (c + 1) ((n, t, sz) :: B) M' F)
         | false => False)
       | false => False)
     | none => False)
   | .none => False)
 | .box t x => (match o.dst with
   | some d => (match Nat.blt d E.N with
     | true => (match aY T x with
       | some s => (match iM s with
         | some l => jW n 0 l M fun M' => next (.mk ((d, .p n 0) :: T) (n + 1) (c + 1) ((n, t, dO l) :: B) M' F)
         | none => False)
       | none => False)
     | false => False)
   | none => False)
 | .store t x y => (match o.dst with
   | some _ => False
   | none => (match aY T x with
     | some (.p k off) => (match ti t with
       | .mk _ sz _ _ _ _ _ _ => (match aY T y with
         | some s => (match iM s with
           | some l => (match Nat.beq (dO l) sz with
             | true => (match uW B k with
               | some bsz => (match Nat.ble (off + sz) bsz with
                 | true => jW k off l M fun M' => next (.mk T n (c + 1) B M' F)
                 | false => False)
               | none => False)
             | false => False)
           | none => False)
         | none => False)
       | .none => False)
     | _ => OpW (cQ E o next T n c B M F)))
 | .pick x y z => (match x with
   | .tmp t => (match oH T t with
     | some (.v (.bool b)) => (match o.dst with
       | some d => (match Nat.blt d E.N with
         | true => CaseB b (match aY ((t, .lit true) :: T) y with
             | some s => next (.mk ((d, s) :: (t, .lit true) :: T) n c B M F)
             | none => False) (match aY ((t, .lit false) :: T) z with
             | some s => next (.mk ((d, s) :: (t, .lit false) :: T) n c B M F)
             | none => False)
         | false => False)
       | none => False)
     | _ => False)
   | _ => False)
 | .buildSlice t len ps => (match ti t with
   | .mk _ _ _ _ (some e) _ _ _ => (match ti e with
     | .mk _ esz _ _ _ _ _ _ => (match o.dst with
       | some d => (match Nat.blt d E.N with
         | true => (match Nat.beq (dO ps.toList) len with
           | true => (match Nat.ble (len * esz + len) 16777216 with
             | true => (match oN T esz 0 ps.toList with
               | some cs => AllSl fun y => next (.mk ((d, .v (y.val len)) :: T) n (c + 1) B M (gX false y e esz cs len :: F))
               | none => False)
             | false => False)
           | false => False)
         | false => False)
       | none => False)
     | .none => False)
   | _ => False)
 | _ => OpW (cQ E o next T n c B M F)
def zX (E : Env) (ti : Nat → TI) (o : Oper) (next : St → Prop) : St → Prop
 | .mk T n c B M F => match uU ti T c M o.op with
   | some s => (match o.dst with
     | some d => (match Nat.blt d E.N with
       | true => next (.mk ((d, s) :: T) n c B M F)
       | false => False)
     | none => next (.mk T n c B M F))
   | none => gF0 E ti o next T n c B M F o.op
def eF0 (ops : List Oper) (T : List (Nat × SV)) (j : Nat) : Option (Nat × SV) :=
 match nth ops j with
 | some g => (match g.dst with
   | some t => (match oH T t with
     | some s => some (t, s)
     | none => none)
   | none => none)
 | none => none
def oO (E : Env) (o : Oper) (next : St → Prop) : St → Prop
 | .mk T n c B M F => match o.dst with
   | some d => (match Nat.blt d E.N with
     | true => next (.mk ((d, .v undef) :: T) n c B M F)
     | false => False)
   | none => next (.mk T n c B M F)
def kE (E : Env) (ti : Nat → TI) (ops : List Oper) (K : St → Prop) : List Oper → St → Prop
 | [], s => K s
 | o :: r, s => match o.guard with
   | none => zX E ti o (kE E ti ops K r) s
   | some (j, iV) => (match s with
     | .mk T n c B M F => (match eF0 ops T j with
       | some (_, .lit b) => (match b, iV with
         | true, true => zX E ti o (kE E ti ops K r) (.mk T n c B M F)
         | false, false => zX E ti o (kE E ti ops K r) (.mk T n c B M F)
         | true, false => oO E o (kE E ti ops K r) (.mk T n c B M F)
         | false, true => oO E o (kE E ti ops K r) (.mk T n c B M F))
       | some (t, .v (.bool b)) => (match iV with
         | true => CaseB b (zX E ti o (kE E ti ops K r) (.mk ((t, .lit true) :: T) n c B M F)) (oO E o (kE E ti ops K r) (.mk ((t, .lit false) :: T) n c B M F))
         | false => CaseB b (oO E o (kE E ti ops K r) (.mk ((t, .lit true) :: T) n c B M F)) (zX E ti o (kE E ti ops K r) (.mk ((t, .lit false) :: T) n c B M F)))
       | some (_, .v (.tuple _)) => oO E o (kE E ti ops K r) (.mk T n c B M F)
       | _ => False))
def lN (E : Env) (K : St → Prop) : Exit → Act → World → Prop := fun e a' w' => match e with
 | .normal => ∃ s', Den E s' a' w' ∧ K s'
 | _ => False
def dJ (E : Env) (ti : Nat → TI) : Code → (Exit → St → Prop) → St → Prop
 | .skip, K, s => K .normal s
 | .region _ ops false, K, s => kE E ti ops.toList (K .normal) ops.toList s
 | .region id ops true, K, s => DrawW (∀ a w, Den E s a w → (Code.region id ops true).wp E.P (lN E (K .normal)) a w)
 | .seq x y, K, s => dJ E ti x (fun e s' => match e with
     | .normal => dJ E ti y K s'
     | e => K e s') s
 | .cond x y z, K, s => (match s with
   | .mk T n c B M F => (match aY T x with
     | some (.lit true) => dJ E ti y K (.mk T n c B M F)
     | some (.lit false) => dJ E ti z K (.mk T n c B M F)
     | some (.v (.bool b)) => CaseB b (dJ E ti y K (.mk T n c B M F)) (dJ E ti z K (.mk T n c B M F))
     | _ => False))
 | .block id x, K, s => dJ E ti x (fun e s' => match e with
     | .exit id' => (match Nat.beq id' id with
       | true => K .normal s'
       | false => K (.exit id') s')
     | e => K e s') s
 | .exit id, K, s => K (.exit id) s
 | .ret, K, s => K .ret s
 | .loop x, K, s => LoopW (∃ (Y : Type) (S : Y → St) (m : Y → Nat) (y0 : Y), Weak E s (S y0) ∧ ∀ y, dJ E ti x (fun e s' => match e with
     | .normal => ∃ y', Weak E s' (S y') ∧ m y' < m y
     | e => K e s') (S y))
 | _, _, _ => False
section
variable {E : Env} {ti : Nat → TI}
theorem Oper.wp_weak {P : Program} {o : Oper} {a : Act} {w : World} {K K' : Act → World → Prop} {Q : Exit → Act → World → Prop} (h : ∀ a w, K a w → K' a w) (hh : o.wp P a w K (fun _ _ _ => False)) : o.wp P a w K' Q := by
 unfold Oper.wp at *
 generalize (execOp a.eval o).run P w = r at *
 have hL : ¬ LetsOut (fun (_ : Exit) (_ : Act) (_ : World) => False) := fun ⟨_, _, h⟩ => h
 cases r with
 | ok n w' =>
   cases n <;> simp only [Oper.upon] at hh ⊢ <;>
     first
       | exact h _ _ hh
       | exact Calls.mono hh (fun e w'' he => by cases e <;> first | exact h _ _ he | exact (he : False).elim | exact (hL he).elim)
       | exact Rows.mono hh (fun _ _ he => h _ _ he)
 | halt x w' => cases x <;> simp only [Oper.upon] at hh
theorem aQ {P : Program} {o : Oper} {a : Act} {w w' : World} {K : Act → World → Prop} {Q : Exit → Act → World → Prop} {v : Value} (hr : (execOp a.eval o).run P w = .ok (.value v) w') (h : K (a.put o.dst v) w') : o.wp P a w K Q := by
 unfold Oper.wp
 rw [hr]
 exact h
theorem gM {P : Program} {o : Oper} {a : Act} {w w' : World} {K : Act → World → Prop} {Q : Exit → Act → World → Prop} (hr : (execOp a.eval o).run P w = .ok .skip w') (h : K (a.put o.dst undef) w') : o.wp P a w K Q := by
 unfold Oper.wp
 rw [hr]
 exact h
theorem qI {T : List (Nat × SV)} {A : Nat → Nat} {n c : Nat} {a : Act} {w : World} (h : TD E A T n c a w) {esz : Nat} : ∀ {ps : List (Nat × Operand)} {i : Nat} {cs : List Value} {acc : Array Value},
   oN T esz i ps = some cs → acc.size = (i + ps.length) * esz → cs.length = ps.length * esz ∧ ∃ r, Instr.fill (fun i => some (i * esz, esz)) acc (ps.map fun x => (x.1, a.eval x.2)) = some r ∧ r.toList = acc.toList.take (i * esz) ++ cs
 | [], i, cs, acc, hp, hs => by
   simp [oN] at hp; subst hp
   refine ⟨by simp, acc, by simp [Instr.fill], ?_⟩
   rw [List.take_of_length_le (by simp [hs])]; simp
 | (j, x) :: ps, i, cs, acc, hp, hs => by
   simp only [oN] at hp
   split at hp
   · rename_i hij
     obtain rfl := Nat.eq_of_beq_eq_true hij
     split at hp
     · rename_i u hu
       split at hp
       · rename_i l hl
         split at hp
         · rename_i hsz
           split at hp
           · rename_i q hq
             simp at hp; subst hp
             obtain ⟨c1, c2⟩ := kX hl
             have hsz' := Nat.eq_of_beq_eq_true hsz
             have hus : u.cells.size = esz := by rw [← hsz', ← c1]; simp
             have hmul : (i + (ps.length + 1)) * esz = i * esz + (ps.length + 1) * esz := Nat.add_mul _ _ _
             have hmul2 : (ps.length + 1) * esz = ps.length * esz + esz := Nat.succ_mul _ _
             have hle : i * esz + u.cells.size ≤ acc.size := by
               rw [hs, hus]; simp only [List.length_cons]; omega
             have hset := zW (cs := acc) (off := i * esz) (u := u) hle
             rw [pJ _ _ _ (by simpa using hle)] at hset
             obtain ⟨acc', hacc⟩ : ∃ z, z = (u.cells.zipIdx.foldl (fun cs (c, j) => cs.setIfInBounds (i * esz + j) c) acc) := ⟨_, rfl⟩
             rw [← hacc] at hset
             have hsize' : acc'.size = (i + 1 + ps.length) * esz := by
               have : acc'.toList.length = acc.size := by rw [hset]; simp; omega
               simp at this
               rw [this, hs]; simp only [List.length_cons]; congr 1; omega
             obtain ⟨g1, r, g2, g3⟩ := qI h (acc := acc') hq hsize'
             refine ⟨by rw [List.length_append, g1, hsz']; simp only [List.length_cons]; omega, r, ?_, ?_⟩
             · simp only [List.map_cons, Instr.fill, iB h hu]
               rw [if_neg (by simp [hus]; rw [hus] at hle; exact hle)]
               rw [hacc] at g2
               exact g2
             · rw [g3, hset]
               have e1 : (i + 1) * esz = i * esz + esz := Nat.succ_mul _ _
               have e2 : u.cells.toList.length = esz := by simpa using hus
               have e3 : (List.take (i * esz) acc.toList ++ u.cells.toList).length = i * esz + esz := by
                 rw [List.length_append, List.length_take, e2]; simp; omega
               rw [e1, ← e3, List.take_left', c1, List.append_assoc]
               rfl
           · cases hp
         · cases hp
       · cases hp
     · cases hp
   · cases hp
end
section
variable {E : Env} {ti : Nat → TI} {A : Nat → Nat} {T : List (Nat × SV)} {n c : Nat} {B : List (Nat × TypeId × Nat)} {M : List ((Nat × Nat) × SV)} {F : List Fct} {a : Act} {w w' : World}
theorem TD.lit (h : TD E A T n c a w) {t : Nat} {b : Bool} (ht : oH T t = some (.v (.bool b))) : TD E A ((t, .lit b) :: T) n c a w := by
 refine ⟨h.size, h.defers, fun t' x hx => ?_⟩
 rw [pI] at hx
 by_cases e : t = t'
 · subst e
   simp at hx; subst hx
   exact ⟨(h.tm t _ ht).1, trivial⟩
 · simp [e] at hx
   exact h.tm t' x hx
theorem wT {P : Program} {t : TypeId} {i : TypeInfo} {z : Value} (hi : P.info? t = some i) (hz : i.zero = some z) (w : World) (hn : Value) :
   (Instr.alloc t true hn).run P w = .ok (.pointer (some ⟨w.heap.size, 0, none⟩)) (w.alloc (.cells z.cells t)) := by
 simp [Instr.alloc, zeroValue, typeInfo, hi, hz, newVar, newRow]
theorem zY (hti : ∀ t, aT E.P t (ti t)) {o : Oper} {next : St → Prop} (hv : gF0 E ti o next T n c B M F o.op) (hW : WD E A n B M F w) (hT : TD E A T n c a w) {K : Act → World → Prop} {Q : Exit → Act → World → Prop} (hK : ∀ s a w, Den E s a w → next s → K a w) :
   o.wp E.P a w K Q := by
 cases hop : o.op <;> rw [hop] at hv <;> simp only [gF0] at hv
 case alloc t =>
   split at hv
   · rename_i agg sz zero fs el ik kd bytes hte
     split at hv
     · rename_i d hd
       split at hv
       · rename_i hdn
         split at hv
         · rename_i hlen
           have htt := hti t
           rw [hte] at htt
           obtain ⟨ii, dd, z, e1, e2, e3, e4, e5, e6, e7, e8, e9, e10, e11⟩ := aP htt
           rw [fV] at hv
           have hsz := Nat.eq_of_beq_eq_true hlen
           rw [dN] at hsz
           have hal := hW.alloc (l := zero.map .v) (fun x hx => by obtain ⟨y, _, rfl⟩ := List.mem_map.1 hx; trivial) t
           have hcells : ((zero.map SV.v).map (SV.den A)).toArray = z.cells := by
             rw [List.map_map, show (SV.den A ∘ SV.v) = id from rfl, List.map_id, ← e6]
           rw [hcells, List.length_map, hsz] at hal
           have hr : (execOp a.eval o).run E.P w = .ok (.value (.pointer (some ⟨w.heap.size, 0, none⟩))) (w.alloc (.cells z.cells t)) := by
             simp [execOp, hop, wT e1 e5]
           refine aQ hr ?_
           rw [hd]
           refine hK _ _ _ ⟨_, hal, ?_⟩ hv
           have := (hT.alloc w.heap.size (w.alloc (.cells z.cells t))).put (d := d) (v := .p n 0) z78 (Nat.lt_succ_self n)
           simpa [SV.den, ptr] using this
         · exact hv.elim
       · exact hv.elim
     · exact hv.elim
   · exact hv.elim
 case box t x =>
   split at hv
   · rename_i d hd
     split at hv
     · rename_i hdn
       split at hv
       · rename_i s hs
         split at hv
         · rename_i l hl
           rw [fV] at hv
           obtain ⟨h1, h2⟩ := aE hT hs
           obtain ⟨c1, c2, c3⟩ := iN (A := A) hl h2
           have hal := hW.alloc c2 t
           rw [← dN] at hal
           have hcells : (l.map (SV.den A)).toArray = (s.den A).cells := by rw [← c1]
           rw [hcells] at hal
           have hr : (execOp a.eval o).run E.P w = .ok (.value (.pointer (some ⟨w.heap.size, 0, none⟩))) (w.alloc (.cells (s.den A).cells t)) := by
             simp [execOp, hop, Instr.box, newVar, newRow, h1]
           refine aQ hr ?_
           rw [hd]
           refine hK _ _ _ ⟨_, hal, ?_⟩ hv
           have := (hT.alloc w.heap.size (w.alloc (.cells (s.den A).cells t))).put (d := d) (v := .p n 0) z78 (Nat.lt_succ_self n)
           simpa [SV.den, ptr] using this
         · exact hv.elim
       · exact hv.elim
     · exact hv.elim
   · exact hv.elim
 case store t x y =>
   split at hv
   · exact hv.elim
   · rename_i hd
     split at hv
     · rename_i k off hx
       split at hv
       · rename_i agg sz zero fs el ik kd bytes hte
         split at hv
         · rename_i s hs
           split at hv
           · rename_i l hl
             split at hv
             · rename_i hlen
               split at hv
               · rename_i bsz hb
                 split at hv
                 · rename_i hle
                   rw [fV] at hv
                   have htt := hti t
                   rw [hte] at htt
                   obtain ⟨ii, dd, z, e1, e2, e3, e4, e5, e6, e7, e8, e9, e10, e11⟩ := aP htt
                   obtain ⟨h1, h2⟩ := aE hT hs
                   obtain ⟨h3, h4⟩ := aE hT hx
                   obtain ⟨c1, c2, c3⟩ := iN (A := A) hl h2
                   obtain ⟨ty, hmem⟩ := pK hb
                   have hsz := Nat.eq_of_beq_eq_true hlen
                   rw [dN] at hsz
                   obtain ⟨w', hrun, hW'⟩ := hW.store hmem c2 c3 (by rw [hsz]; exact Nat.le_of_ble_eq_true hle) E.P
                   have hcs : (s.den A).cells.size = ii.size := by
                     have : (s.den A).cells.toList.length = l.length := by rw [c1]; simp
                     simp at this
                     rw [this, hsz, e4]
                   have hr : (execOp a.eval o).run E.P w = .ok .skip w' := by
                     have h3' : a.eval x = .pointer (some ⟨A k, off, none⟩) := h3
                     simp only [execOp, hop, Instr.storeAt, h1, h3', Instr.sureAddr, Sem.run_bind, Sem.run_pure, Result.andThen_ok, storeVar, cM e1]
                     rw [if_neg (by simp [hcs]), c1]
                     simp only [Result.andThen_ok, hrun]
                   refine gM hr ?_
                   rw [hd]
                   exact hK _ _ _ ⟨A, hW', hT.step w'⟩ hv
                 · exact hv.elim
               · exact hv.elim
             · exact hv.elim
           · exact hv.elim
         · exact hv.elim
       · exact hv.elim
     · obtain ⟨hv⟩ := hv
       exact Oper.wp_weak (fun a w ⟨s, h1, h2⟩ => hK s a w h1 h2) (hv A a w hW hT)
 case pick x y z =>
   split at hv
   · rename_i t
     split at hv
     · rename_i b hb
       split at hv
       · rename_i d hd
         split at hv
         · rename_i hdn
           have hlt : d < E.N := by simpa using hdn
           have hT' := hT.lit hb
           have heval : a.eval (.tmp t) = .bool b := (hT.tm t _ hb).1
           cases b with
           | true =>
             have hv := hv.t rfl
             split at hv
             · rename_i s hs
               obtain ⟨h1, h2⟩ := aE hT' hs
               have hr : (execOp a.eval o).run E.P w = .ok (.value (s.den A)) w := by
                 simp [execOp, hop, heval, asBool, h1]
               refine aQ hr ?_
               rw [hd]
               exact hK _ _ _ ⟨A, hW, hT'.put hlt h2⟩ hv
             · exact hv.elim
           | false =>
             have hv := hv.f rfl
             split at hv
             · rename_i s hs
               obtain ⟨h1, h2⟩ := aE hT' hs
               have hr : (execOp a.eval o).run E.P w = .ok (.value (s.den A)) w := by
                 simp [execOp, hop, heval, asBool, h1]
               refine aQ hr ?_
               rw [hd]
               exact hK _ _ _ ⟨A, hW, hT'.put hlt h2⟩ hv
             · exact hv.elim
         · exact hv.elim
       · exact hv.elim
     · exact hv.elim
   · exact hv.elim
 case buildSlice t len ps =>
   split at hv
   · rename_i e ik kd bytes hte
     split at hv
     · rename_i agg2 esz zero2 fs2 el2 ik2 kd2 bytes2 hte2
       split at hv
       · rename_i d hd
         split at hv
         · rename_i hdn
           split at hv
           · rename_i hplen
             split at hv
             · rename_i h24
               split at hv
               · rename_i cs hcs
                 obtain ⟨hv⟩ := hv
                 have htt := hti t
                 rw [hte] at htt
                 obtain ⟨ii, dd, z, e1, e2, e3, e4, e5, e6, e7, e8, e9, e10, e11⟩ := aP htt
                 have htt2 := hti e
                 rw [hte2] at htt2
                 obtain ⟨ii2, dd2, z2, k1, k2, k3, k4, k5, k6, k7, k8, k9, k10, k11⟩ := aP htt2
                 have hdd := fT e8
                 have hlen := Nat.eq_of_beq_eq_true hplen
                 rw [dN] at hlen
                 have h24' := Nat.le_of_ble_eq_true h24
                 obtain ⟨r, g1, g2, g3⟩ : ∃ r, cs.length = len * esz ∧ Instr.fill (fun i => some (i * esz, esz)) ((Array.range (len * esz)).map (((if len * esz = 0 then #[] else z2.cells) : Array Value)[· % ((if len * esz = 0 then #[] else z2.cells) : Array Value).size]!)) (ps.toList.map fun x => (x.1, a.eval x.2)) = some r ∧ r.toList = cs := by
                   obtain ⟨q1, r, q2, q3⟩ := qI hT (acc := (Array.range (len * esz)).map (((if len * esz = 0 then #[] else z2.cells) : Array Value)[· % ((if len * esz = 0 then #[] else z2.cells) : Array Value).size]!)) hcs (by simp [hlen])
                   exact ⟨r, by rw [q1, hlen], q2, by simpa using q3⟩
                 have hrcs : r = cs.toArray := by apply Array.ext'; simpa using g3
                 have hr : (execOp a.eval o).run E.P w = .ok (.value (.slice (some ⟨w.heap.size, 0, none⟩) len len)) (w.alloc (.cells cs.toArray e)) := by
                   have hps : (ps.map fun (x : Nat × Operand) => (x.1, a.eval x.2)).toList = ps.toList.map fun x => (x.1, a.eval x.2) := by simp
                   have hdd2 : E.P.underlying t = some (.slice e) := by rw [e2, hdd]
                   simp only [execOp, hop, Instr.buildSlice, Sem.run_bind, underlying, run_program, Result.andThen_ok, hdd2, Sem.run_pure, cM k1, k4, hps]
                   rw [if_neg (show ¬ (len * esz > 2 ^ 24) by omega)]
                   by_cases h0 : len * esz = 0
                   · simp only [h0, if_true] at g2 ⊢
                     simp only [Sem.run_bind, Sem.run_pure, Result.andThen_ok]
                     rw [g2]
                     simp [newRow, hrcs]
                   · simp only [h0, if_false] at g2 ⊢
                     simp only [Sem.run_bind, Sem.run_pure, Result.andThen_ok, zeroValue, typeInfo, run_program, k1, k5]
                     rw [g2]
                     simp [newRow, hrcs]
                 refine aQ hr ?_
                 rw [hd]
                 have hex := Ext.alloc w (.cells cs.toArray e)
                 have hown : (w.alloc (.cells cs.toArray e)).ownsRow 0 e esz (Sl.val ⟨some ⟨w.heap.size, 0, none⟩, len⟩ len) len cs := by
                   refine ⟨g1, .inr ⟨w.heap.size, len, cs.toArray, rfl, Nat.zero_le _, heap_alloc_new w _, Nat.le_refl _, ?_, by simp [g1], ?_⟩⟩
                   · simp only [maxLen]; omega
                   · simp [← g1]
                 have hnew : New w (w.alloc (.cells cs.toArray e)) [gX false ⟨some ⟨w.heap.size, 0, none⟩, len⟩ e esz cs len] := by
                   refine ⟨fun f hf => ?_, List.pairwise_singleton _ _⟩
                   simp only [List.mem_singleton] at hf
                   subst hf
                   refine ⟨hown, rfl, fun b hb => ?_⟩
                   obtain ⟨ad, h1, h2⟩ := hb
                   simp only [Option.some.injEq] at h1
                   subst h1
                   simp at h2
                   subst h2
                   simp
                 have hL := hW.learn hex hnew
                 exact hK _ _ _ ⟨A, hL, (hT.step _).put (d := d) (v := .v (Sl.val ⟨some ⟨w.heap.size, 0, none⟩, len⟩ len)) z78 trivial⟩ (hv ⟨some ⟨w.heap.size, 0, none⟩, len⟩)
               · exact hv.elim
             · exact hv.elim
           · exact hv.elim
         · exact hv.elim
       · exact hv.elim
     · exact hv.elim
   · exact hv.elim
 all_goals
   obtain ⟨hv⟩ := hv
   exact Oper.wp_weak (fun a w ⟨s, h1, h2⟩ => hK s a w h1 h2) (hv A a w hW hT)
end
section
variable {E : Env} {ti : Nat → TI}
theorem bM0 (hti : ∀ t, aT E.P t (ti t)) {o : Oper} {next : St → Prop} {s : St} (hv : zX E ti o next s) {a : Act} {w : World} (hd : Den E s a w) {K : Act → World → Prop} {Q : Exit → Act → World → Prop} (hK : ∀ s a w, Den E s a w → next s → K a w) :
   o.wp E.P a w K Q := by
 obtain ⟨T, n, c, B, M, F⟩ := s
 obtain ⟨A, hW, hT⟩ := hd
 simp only [zX] at hv
 split at hv
 · rename_i sv hs
   obtain ⟨h1, h2⟩ := oM hti (fun k o v hv => (hW.mem k o v hv).2) hT hs
   refine aQ h1 ?_
   split at hv
   · rename_i d hd
     split at hv
     · rename_i hdn
       rw [hd]
       exact hK _ _ _ ⟨A, hW, hT.put z78 h2⟩ hv
     · exact hv.elim
   · rename_i hd
     rw [hd]
     exact hK _ _ _ ⟨A, hW, hT⟩ hv
 · exact zY hti hv hW hT hK
theorem bN0 {o : Oper} {next : St → Prop} {s : St} (hv : oO E o next s) {a : Act} {w : World} (hd : Den E s a w) {K : Act → World → Prop} (hK : ∀ s a w, Den E s a w → next s → K a w) : K (a.put o.dst undef) w := by
 obtain ⟨T, n, c, B, M, F⟩ := s
 obtain ⟨A, hW, hT⟩ := hd
 simp only [oO] at hv
 split at hv
 · rename_i d hd
   split at hv
   · rename_i hdn
     rw [hd]
     exact hK _ _ _ ⟨A, hW, hT.put (d := d) (v := .v undef) z78 trivial⟩ hv
   · exact hv.elim
 · rename_i hd
   rw [hd]
   exact hK _ _ _ ⟨A, hW, hT⟩ hv
theorem kY {A : Nat → Nat} {T : List (Nat × SV)} {n c : Nat} {a : Act} {w : World} (h : TD E A T n c a w) {ops : List Oper} {j t : Nat} {s : SV} {b : Bool} (hg : eF0 ops T j = some (t, s)) (hb : s.den A = .bool b) :
   yielded ops.toArray a.tmps j = some b ∧ oH T t = some s := by
 unfold eF0 at hg
 split at hg
 · rename_i g hj
   split at hg
   · rename_i t' ht
     split at hg
     · rename_i s' hs
       simp at hg
       obtain ⟨rfl, rfl⟩ := hg
       refine ⟨?_, hs⟩
       have h1 := (h.tm _ _ hs).1
       rw [hb] at h1
       rw [mE] at hj
       unfold yielded
       have hopt : a.tmps[t']? = some (.bool b) := by
         cases hx : a.tmps[t']? with
         | none => rw [Array.getD_eq_getD_getElem?, hx] at h1; simp [undef] at h1
         | some y => rw [Array.getD_eq_getD_getElem?, hx] at h1; simp at h1; rw [h1]
       simp [hj, ht, hopt]
     · cases hg
   · cases hg
 · cases hg
theorem wU {A : Nat → Nat} {T : List (Nat × SV)} {n c : Nat} {a : Act} {w : World} (h : TD E A T n c a w) {ops : List Oper} {j t : Nat} {s : SV} {xs : Array Value} (hg : eF0 ops T j = some (t, s)) (hb : s.den A = .tuple xs) :
   yielded ops.toArray a.tmps j = none := by
 unfold eF0 at hg
 split at hg
 · rename_i g hj
   split at hg
   · rename_i t' ht
     split at hg
     · rename_i s' hs
       simp at hg
       obtain ⟨rfl, rfl⟩ := hg
       have h1 := (h.tm _ _ hs).1
       rw [hb] at h1
       rw [mE] at hj
       unfold yielded
       cases hx : a.tmps[t']? with
       | none => simp [hj, ht, hx]
       | some y => rw [Array.getD_eq_getD_getElem?, hx] at h1; simp at h1; subst h1; simp [hj, ht, hx]
     · cases hg
   · cases hg
 · cases hg
theorem tH (hti : ∀ t, aT E.P t (ti t)) (ops : List Oper) {K : St → Prop} {Q : Exit → Act → World → Prop} (hK : ∀ s a w, Den E s a w → K s → Q .normal a w) :
   ∀ (rest : List Oper) (s : St) (a : Act) (w : World), kE E ti ops K rest s → Den E s a w → wpList E.P ops.toArray Q rest a w
 | [], s, a, w, hv, hd => hK s a w hd hv
 | o :: r, s, a, w, hv, hd => by
   have ih : ∀ s a w, Den E s a w → kE E ti ops K r s → wpList E.P ops.toArray Q r a w := fun s a w h1 h2 => tH hti ops hK r s a w h2 h1
   have go : ∀ s, Den E s a w → zX E ti o (kE E ti ops K r) s → Region.wanted o (yielded ops.toArray a.tmps) = true → wpList E.P ops.toArray Q (o :: r) a w := by
     intro s h1 h2 h3
     unfold wpList
     rw [if_pos h3]
     exact .inl (bM0 hti h2 h1 ih)
   have sk : ∀ s, Den E s a w → oO E o (kE E ti ops K r) s → Region.wanted o (yielded ops.toArray a.tmps) = false → wpList E.P ops.toArray Q (o :: r) a w := by
     intro s h1 h2 h3
     unfold wpList
     rw [if_neg (by simp [h3])]
     exact bN0 h2 h1 ih
   obtain ⟨T, n, c, B, M, F⟩ := s
   simp only [kE] at hv
   split at hv
   · rename_i hg
     exact go _ hd hv (by simp [Region.wanted, hg])
   · rename_i j iV hg
     split at hv
     · rename_i t b hgv
       obtain ⟨A, hW, hT⟩ := hd
       have hy := (kY hT hgv (b := b) rfl).1
       have hd : Den E (.mk T n c B M F) a w := ⟨A, hW, hT⟩
       split at hv
       · exact go _ hd hv z73
       · exact go _ hd hv z73
       · exact sk _ hd hv z73
       · exact sk _ hd hv z73
     · rename_i t b hgv
       obtain ⟨A, hW, hT⟩ := hd
       obtain ⟨hy, hl⟩ := kY hT hgv (b := b) rfl
       have hd : Den E (.mk ((t, .lit b) :: T) n c B M F) a w := ⟨A, hW, hT.lit hl⟩
       split at hv
       · cases b with
         | true => exact go _ hd (hv.t rfl) z73
         | false => exact sk _ hd (hv.f rfl) z73
       · cases b with
         | true => exact sk _ hd (hv.t rfl) z73
         | false => exact go _ hd (hv.f rfl) z73
     · rename_i t xs hgv
       obtain ⟨A, hW, hT⟩ := hd
       have hy := wU hT hgv (xs := xs) rfl
       exact sk _ ⟨A, hW, hT⟩ hv z73
     · exact hv.elim
theorem yG (hti : ∀ t, aT E.P t (ti t)) : ∀ (x : Code) (K : Exit → St → Prop) (s : St), dJ E ti x K s → ∀ (Q : Exit → Act → World → Prop), (∀ e s a w, Den E s a w → K e s → Q e a w) → ∀ a w, Den E s a w → x.wp E.P Q a w := by
 intro x
 induction x with
 | skip => intro K s hv Q hK a w hd; exact wp_skip (hK _ _ _ _ hd hv)
 | region id ops draw =>
   intro K s hv Q hK a w hd
   cases draw with
   | false =>
     simp only [dJ] at hv
     refine wp_region_list ?_
     have := tH hti ops.toList (Q := Q) (fun s a w h1 h2 => hK .normal s a w h1 h2) ops.toList s a w hv hd
     simpa using this
   | true =>
     simp only [dJ] at hv
     refine wp_mono (hv.out a w hd) ?_
     intro e a' w' h
     cases e <;> simp only [lN] at h
     obtain ⟨s', h1, h2⟩ := h
     exact hK _ _ _ _ h1 h2
 | seq x y ihx ihy =>
   intro K s hv Q hK a w hd
   simp only [dJ] at hv
   refine wp_seq (ihx _ s hv _ ?_ a w hd)
   intro e s' a' w' h1 h2
   cases e with
   | normal => exact ihy K s' h2 Q hK a' w' h1
   | _ => exact hK _ _ _ _ h1 h2
 | cond c y z ihy ihz =>
   intro K s hv Q hK a w hd
   obtain ⟨T, n, cc, B, M, F⟩ := s
   simp only [dJ] at hv
   obtain ⟨A, hW, hT⟩ := hd
   have hd : Den E (.mk T n cc B M F) a w := ⟨A, hW, hT⟩
   split at hv
   · rename_i hc
     exact wp_cond_true (aE hT hc).1 (ihy K _ hv Q hK a w hd)
   · rename_i hc
     exact wp_cond_false (aE hT hc).1 (ihz K _ hv Q hK a w hd)
   · rename_i b hc
     have he := (aE hT hc).1
     cases b with
     | true => exact wp_cond_true he (ihy K _ (hv.t rfl) Q hK a w hd)
     | false => exact wp_cond_false he (ihz K _ (hv.f rfl) Q hK a w hd)
   · exact hv.elim
 | block id x ih =>
   intro K s hv Q hK a w hd
   simp only [dJ] at hv
   refine wp_block (ih _ s hv _ ?_ a w hd)
   intro e s' a' w' h1 h2
   cases e with
   | exit id' =>
     simp only at h2
     simp only [Exit.inBlock]
     split at h2
     · rename_i he
       rw [if_pos (Nat.eq_of_beq_eq_true he)]
       exact hK _ _ _ _ h1 h2
     · rename_i he
       rw [if_neg (by intro e; subst e; rw [Nat.beq_refl] at he; cases he)]
       exact hK _ _ _ _ h1 h2
   | _ => exact hK _ _ _ _ h1 h2
 | loop x ih =>
   intro K s hv Q hK a w hd
   simp only [dJ] at hv
   obtain ⟨⟨Y, S, m, y0, h0, hr⟩⟩ := hv
   refine wp_loop_ghost (fun k a w => ∃ y, m y = k ∧ Den E (S y) a w) (m y0) ⟨y0, rfl, h0 a w hd⟩ ?_
   rintro k a w ⟨y, rfl, hy⟩
   refine ih _ (S y) (hr y) _ ?_ a w hy
   intro e s' a' w' h1 h2
   cases e with
   | normal =>
     obtain ⟨y', g1, g2⟩ := h2
     exact ⟨m y', g2, y', rfl, g1 a' w' h1⟩
   | _ => exact hK _ _ _ _ h1 h2
 | exit id => intro K s hv Q hK a w hd; exact wp_exit (hK _ _ _ _ hd hv)
 | ret => intro K s hv Q hK a w hd; exact wp_ret (hK _ _ _ _ hd hv)
 | _ => intro K s hv; exact hv.elim
def zZ (ti : Nat → TI) (T : List (Nat × SV)) (M : List ((Nat × Nat) × SV)) (c : Nat) : List ResultVar → Option (List SV)
 | [] => some []
 | .tmp t :: r => match oH T t with
   | some s => (match zZ ti T M c r with
     | some l => some (s :: l)
     | none => none)
   | none => none
 | .cell t ty :: r => match zS (ti ty) T c M (.tmp t) with
   | some s => (match zZ ti T M c r with
     | some l => some (s :: l)
     | none => none)
   | none => none
def hD (A : Nat → Nat) : List SV → Value
 | [] => .tuple #[]
 | [s] => s.den A
 | l => .tuple (l.map (SV.den A)).toArray
def dA0 (E : Env) (ti : Nat → TI) (rs : List ResultVar) (R : Ending → World → Prop) : St → Prop
 | .mk T n c B M F => match zZ ti T M c rs with
   | some l => RetW (∀ A w, WD E A n B M F w → R (.returned (hD A l)) w)
   | none => False
def mT (E : Env) (ti : Nat → TI) (rs : List ResultVar) (R : Ending → World → Prop) : Exit → St → Prop := fun e s => match e with
 | .ret => dA0 E ti rs R s
 | .normal => dA0 E ti rs R s
 | _ => False
theorem oP {A : Nat → Nat} {T : List (Nat × SV)} {n c : Nat} {B : List (Nat × TypeId × Nat)} {M : List ((Nat × Nat) × SV)} {F : List Fct} {a : Act} {w : World} (hti : ∀ t, aT E.P t (ti t)) (hW : WD E A n B M F w) (hT : TD E A T n c a w) :
   ∀ {rs : List ResultVar} {l : List SV}, zZ ti T M c rs = some l → (rs.mapM (fun
     | .tmp t => pure (a.tmps.getD t undef)
     | .cell addr type => do loadVar type (← asAddr (a.tmps.getD addr undef)) : ResultVar → Sem Value)).run E.P w = .ok (l.map (SV.den A)) w
 | [], l, h => by simp [zZ] at h; subst h; simp
 | .tmp t :: r, l, h => by
   simp only [zZ] at h
   split at h
   · rename_i s hs
     split at h
     · rename_i l' hl
       simp at h; subst h
       have ih := oP hti hW hT hl
       simp only [List.mapM_cons, Sem.run_bind, Sem.run_pure, Result.andThen_ok, ih, (hT.tm t s hs).1, List.map_cons]
     · cases h
   · cases h
 | .cell t ty :: r, l, h => by
   simp only [zZ] at h
   split at h
   · rename_i s hs
     split at h
     · rename_i l' hl
       simp at h; subst h
       have ih := oP hti hW hT hl
       have hld := (oK hti (fun k o v hv => (hW.mem k o v hv).2) hT hs { (default : Oper) with op := .load ty (.tmp t) } rfl).1
       simp only [execOp, Instr.loadAt, Act.eval, Sem.run_bind, Sem.run_pure] at hld
       have hld' : ∀ v, a.tmps.getD t undef = v → ((Instr.sureAddr v).run E.P w).andThen (fun ad w' => (loadVar ty ad).run E.P w') = .ok (s.den A) w := by
         intro v hv
         rw [hv] at hld
         cases h1 : (Instr.sureAddr v).run E.P w with
         | ok ad w1 =>
           rw [h1] at hld
           simp only [Result.andThen_ok] at hld ⊢
           cases h2 : (loadVar ty ad).run E.P w1 with
           | ok x w2 => rw [h2] at hld; simp at hld; rw [hld.1, hld.2]
           | halt x w2 => rw [h2] at hld; simp at hld
         | halt x w1 => rw [h1] at hld; simp at hld
       have hld2 := hld' _ rfl
       have hasa : ((asAddr (a.tmps.getD t undef)).run E.P w).andThen (fun ad w' => (loadVar ty ad).run E.P w') = .ok (s.den A) w := by
         revert hld2
         generalize a.tmps.getD t undef = v
         intro hld2
         cases v with
         | pointer p =>
           cases p with
           | none => simp [Instr.sureAddr] at hld2
           | some ad => exact hld2
         | _ => simp [Instr.sureAddr] at hld2
       simp only [List.mapM_cons, Sem.run_bind, Sem.run_pure, List.map_cons]
       cases h1 : (asAddr (a.tmps.getD t undef)).run E.P w with
       | ok ad w1 =>
         rw [h1] at hasa
         simp only [Result.andThen_ok] at hasa ⊢
         rw [hasa]
         simp only [Result.andThen_ok, ih]
       | halt x w1 => rw [h1] at hasa; simp at hasa
     · cases h
   · cases h
theorem jE0 {A : Nat → Nat} {T : List (Nat × SV)} {n c : Nat} {B : List (Nat × TypeId × Nat)} {M : List ((Nat × Nat) × SV)} {F : List Fct} {a : Act} {w : World} (hti : ∀ t, aT E.P t (ti t)) (hW : WD E A n B M F w) (hT : TD E A T n c a w) {fn : Func} {l : List SV} (h : zZ ti T M c fn.results.toList = some l) :
   (results fn a.tmps).run E.P w = .ok (hD A l) w := by
 have h1 := oP hti hW hT h
 unfold results
 rw [← Array.toArray_toList (xs := fn.results), List.mapM_toArray]
 simp only [Sem.run_bind, Sem.run_map, Sem.run_pure]
 refine (congrArg (fun r => (Result.andThen (Result.andThen r fun a w' => .ok a.toArray w') fun (vs : Array Value) w' => Result.ok (if h : vs.size = 1 then vs[0] else Value.tuple vs) w')) h1).trans ?_
 simp only [Result.andThen_ok]
 congr 1
 cases l with
 | nil => simp [hD]
 | cons x r => cases r <;> simp [hD]
def rA : Nat → List SV → List (Nat × SV)
 | _, [] => []
 | k, s :: r => (k, s) :: rA (k + 1) r
theorem uX : ∀ (l : List SV) (k t : Nat) (s : SV), oH (rA k l) t = some s → k ≤ t ∧ l[t - k]? = some s
 | [], k, t, s, h => by simp [rA, oH] at h
 | x :: r, k, t, s, h => by
   simp only [rA] at h
   rw [pI] at h
   by_cases e : k = t
   · subst e; simp at h; subst h; simp
   · simp [e] at h
     obtain ⟨h1, h2⟩ := uX r (k + 1) t s h
     exact ⟨by omega, by rw [show t - k = (t - (k + 1)) + 1 by omega, List.getElem?_cons_succ]; exact h2⟩
theorem rB {P : Program} {f : FuncId} {fn : Func} {x : Code} {R : Ending → World → Prop} (hf : P.funcs[f]? = some fn) (hb : fn.body = some x)
   (E : Env) (hP : E.P = P) (hN : E.N = fn.ntmps) (hti : ∀ t, aT E.P t (ti t)) (l : List SV) (n : Nat) (B : List (Nat × TypeId × Nat)) (M : List ((Nat × Nat) × SV)) (F : List Fct) {A : Nat → Nat} {args : Array Value} (hargs : args.toList = l.map (SV.den A)) (hl : ∀ s ∈ l, s.okT n 0 E.w0) (hlN : l.length ≤ fn.ntmps)
   (hW : WD E A n B M F E.w0)
   (hv : dJ E ti x (mT E ti fn.results.toList R) (.mk (rA 0 l) n 0 B M F)) : Calls P f args E.w0 R := by
 subst hP
 refine calls_of_wp hf hb ?_
 refine yG hti x _ _ hv _ ?_ _ _ ⟨A, hW, ?_, rfl, ?_⟩
 · intro e s a w hd hk
   obtain ⟨T, n, c, B, M, F⟩ := s
   obtain ⟨A, hW, hT⟩ := hd
   have key : dA0 E ti fn.results.toList R (.mk T n c B M F) → a.defers = [] ∧ ∃ v, (results fn a.tmps).run E.P w = .ok v w ∧ R (.returned v) w := by
     intro h
     simp only [dA0] at h
     split at h
     · rename_i l hl
       exact ⟨hT.defers, _, jE0 hti hW hT hl, h.out A w hW⟩
     · exact h.elim
   cases e with
   | normal => exact key hk
   | ret => exact key hk
   | _ => exact (hk : False).elim
 · have : args.size = l.length := by rw [← Array.length_toList, hargs, List.length_map]
   simp [this, hN]; omega
 · intro t s hs
   obtain ⟨_, h2⟩ := uX l 0 t s hs
   simp only [Nat.sub_zero] at h2
   refine ⟨?_, hl s (List.mem_of_getElem? h2)⟩
   have hsz : args.size = l.length := by rw [← Array.length_toList, hargs, List.length_map]
   have hlt : t < l.length := (List.getElem?_eq_some_iff.1 h2).1
   have h3 : args[t]? = some (s.den A) := by
     rw [← Array.getElem?_toList, hargs, List.getElem?_map, h2]; rfl
   rw [Array.getD_eq_getD_getElem?, Array.getElem?_append_left (by omega), h3]
   rfl
end
def aD (P : Program) (g : FuncId) : Bool :=
 match P.funcs[g]? with
 | some fn => !(fn.name == "runtime.NumGoroutine") && !fn.body.isNone
 | none => false
theorem kG {P : Program} {g : FuncId} (h : aD P g = true) (args : Array Value) (w : World) : (callFunc g args).run P w = .ok (.enter g args) w := by
 unfold aD at h
 split at h
 · rename_i fn hf
   simp only [Bool.and_eq_true, Bool.not_eq_true'] at h
   have h1 : ¬ fn.name = "runtime.NumGoroutine" := by simpa using h.1
   have h2 : ¬ fn.body = none := by intro e; rw [e] at h; simp at h
   simp [callFunc, hf, h1, h2]
 · cases h
def cells {α : Type} (enc : α → List Value) (xs : List α) : List Value := xs.flatMap enc
structure Enc {α : Type} (enc : α → List Value) (sz : Nat) : Prop where
 len : ∀ x, (enc x).length = sz
 one : ∀ x, ∀ u ∈ enc x, u.oneCell' = true
section
variable {α : Type} {enc : α → List Value} {sz : Nat}
theorem kH (h : Enc enc sz) (xs : List α) : (cells enc xs).length = xs.length * sz := by
 induction xs with
 | nil => simp [cells]
 | cons x r ih =>
   simp only [cells, List.flatMap_cons, List.length_append, List.length_cons] at ih ⊢
   rw [ih, h.len, Nat.succ_mul]; omega
theorem kI (xs ys : List α) : cells enc (xs ++ ys) = cells enc xs ++ cells enc ys := by simp [cells]
theorem uY (h : Enc enc sz) : ∀ (xs : List α) (k : Nat), cells enc (xs.take k) = (cells enc xs).take (k * sz)
 | [], k => by simp [cells]
 | x :: r, 0 => by simp [cells]
 | x :: r, k + 1 => by
   have ih := uY h r k
   simp only [cells, List.take_succ_cons, List.flatMap_cons] at ih ⊢
   have e1 : (enc x).take (sz + k * sz) = enc x := List.take_of_length_le (by rw [h.len]; omega)
   rw [ih, Nat.succ_mul, Nat.add_comm, List.take_append, h.len, e1, Nat.add_sub_cancel_left]
theorem qJ (h : Enc enc sz) : ∀ (xs : List α) (k : Nat), cells enc (xs.drop k) = (cells enc xs).drop (k * sz)
 | [], k => by simp [cells]
 | x :: r, 0 => by simp
 | x :: r, k + 1 => by
   have ih := qJ h r k
   simp only [cells, List.drop_succ_cons, List.flatMap_cons] at ih ⊢
   have e1 : (enc x).drop (sz + k * sz) = [] := List.drop_of_length_le (by rw [h.len]; omega)
   rw [ih, Nat.succ_mul, Nat.add_comm, List.drop_append, h.len, e1, Nat.add_sub_cancel_left, List.nil_append]
theorem oQ (h : Enc enc sz) {xs : List α} {k : Nat} (hk : k < xs.length) {j : Nat} {u : Value} (hu : (enc xs[k])[j]? = some u) : (cells enc xs)[k * sz + j]? = some u := by
 have h1 : (cells enc xs).drop (k * sz) = enc xs[k] ++ cells enc (xs.drop (k + 1)) := by
   rw [← qJ h, List.drop_eq_getElem_cons hk]; rfl
 rw [← List.getElem?_drop, h1, List.getElem?_append_left (List.getElem?_eq_some_iff.1 hu).1, hu]
theorem wV (h : Enc enc sz) (xs : List α) : ∀ u ∈ cells enc xs, u.oneCell' = true := by
 intro u hu
 obtain ⟨x, _, hx⟩ := List.mem_flatMap.1 hu
 exact h.one x u hx
end
structure IsAt (F : List Fct) (k : Nat) (f : Fct) : Prop where
 h : F[k]? = some f
theorem uD {F : List Fct} (k : Nat) {f : Fct} (h : F[k]? = some f) : IsAt F k f := ⟨h⟩
abbrev sl {α : Type} (i : Sl) (enc : α → List Value) (sz : Nat) (xs : List α) : Fct := fSl false i sz (cells enc xs) xs.length
abbrev own {α : Type} (i : Sl) (e : TypeId) (enc : α → List Value) (sz : Nat) (xs : List α) : Fct := gX false i e sz (cells enc xs) xs.length
def aL (x : Int) : List Value := [.int .i64 x]
theorem aI : Enc aL 1 := ⟨fun _ => rfl, fun _ u hu => by simp [aL] at hu; subst hu; rfl⟩
theorem gN {F : List Fct} (k : Nat) {old : Bool} {i : Sl} {sz m : Nat} {cs : List Value} (hk : F[k]? = some (fSl old i sz cs m)) : ∀ w, (∀ f ∈ F, f.P w) → RdS w i sz cs m :=
 fun _w h => h _ (List.mem_of_getElem? hk)
theorem bF {F : List Fct} (k : Nat) {old : Bool} {i : Sl} {e sz m : Nat} {cs : List Value} (hk : F[k]? = some (gX old i e sz cs m)) : ∀ w, (∀ f ∈ F, f.P w) → RdS w i sz cs m :=
 fun _w h => nJ (h _ (List.mem_of_getElem? hk))
section
variable {E : Env} {ti : Nat → TI} {A : Nat → Nat} {T : List (Nat × SV)} {n c : Nat} {B : List (Nat × TypeId × Nat)} {M : List ((Nat × Nat) × SV)} {F : List Fct} {o : Oper} {next : St → Prop}
def Dst (E : Env) (o : Oper) (d : Nat) : Prop := o.dst = some d ∧ Nat.blt d E.N = true
theorem Dst.lt {d : Nat} (h : Dst E o d) : d < E.N := by simpa using h.2
theorem aB (R : Value → List Fct → Prop) {k : Call} {fo : Operand} {g : FuncId} {cap : List (Nat × Nat)} {l : List SV} {d : Nat} (hc : aD E.P g = true)
   (hop : o.op = .call k) (hk : k.callee = .value fo) (hf : aY T fo = some (.f g cap)) (ha : iK T k.args.toList = some l) (hd : Dst E o d)
   (hcall : ∀ A w, WD E A n B M F w → Calls E.P g ((l.map (SV.den A)) ++ cap.map (fun x => ptr A x.1 x.2)).toArray w (Ret w R))
   (hnext : ∀ v L, R v L → next (.mk ((d, .v v) :: T) n (c + 1) B M (L ++ F))) :
   OpW (cQ E o next T n c B M F) := by
 refine ⟨fun A a w hW hT => ?_⟩
 have hargs : (k.args.map a.eval).toList = l.map (SV.den A) := by rw [Array.toList_map]; exact iL hT ha
 have hfv := (aE hT hf).1
 have hr : (execOp a.eval o).run E.P w = .ok (.enter g ((l.map (SV.den A)) ++ cap.map (fun x => ptr A x.1 x.2)).toArray) w := by
   have hcat : (k.args.map a.eval) ++ (cap.map (fun x => ptr A x.1 x.2)).toArray = ((l.map (SV.den A)) ++ cap.map (fun x => ptr A x.1 x.2)).toArray := by
     apply Array.ext'; rw [Array.toList_append, hargs]
   simp only [execOp, hop, resolve, hk, Sem.run_bind, hfv, SV.den, Deferred.ofValue, Sem.run_pure, Result.andThen_ok, Array.empty_append, invoke, hcat, kG hc]
 unfold Oper.wp
 rw [hr, Oper.upon_enter]
 refine (hcall A w hW).mono ?_
 rintro e w' ⟨v, L, rfl, he, hL, hR⟩
 refine ⟨_, ⟨_, hW.learn he hL, ?_⟩, hnext v L hR⟩
 rw [hd.1]
 exact (hT.step w').put (v := .v v) hd.lt trivial
theorem aF {α : Type} {enc : α → List Value} {sz : Nat} (he : Enc enc sz) {t e : TypeId} {x ix : Operand} {i : Sl} {xs : List α} {kd : IntKind} {m : Int} {d : Nat} {agg : Bool} {size : Nat} {zero : List Value} {fs : List (Nat × Nat × Bool)} {ik : Option IntKind} {kk bytes : Nat} {agg2 : Bool} {zero2 : List Value} {fs2 : List (Nat × Nat × Bool)} {el2 : Option TypeId} {ik2 : Option IntKind} {kk2 bytes2 : Nat}
   (hti : ∀ t, aT E.P t (ti t)) (hop : o.op = .indexAddr t x ix) (hx : aY T x = some (.v (i.val xs.length))) (hix : aY T ix = some (.v (.int kd m)))
   (ht : ti t = .mk agg size zero fs (some e) ik kk bytes) (hte : ti e = .mk agg2 sz zero2 fs2 el2 ik2 kk2 bytes2) (hd : Dst E o d)
   (hF : ∀ w, (∀ f ∈ F, f.P w) → RdS w i sz (cells enc xs) xs.length) (j : Nat) (hj : m = (j : Int)) (hlt : j < xs.length)
   (hnext : ∀ ad : Addr, next (.mk ((d, .e c ad (enc xs[j]) 0) :: T) n c B M F)) :
   OpW (cQ E o next T n c B M F) := by
 refine ⟨fun A a w hW hT => ?_⟩
 obtain ⟨h1, h2, h3, h4⟩ := hF w (fun f hf => (hW.fct f hf).1)
 obtain ⟨ad, had, hcs⟩ := h4 (by omega)
 have htt := hti t
 rw [ht] at htt
 obtain ⟨ii, dd, z, e1, e2, e3, e4, e5, e6, e7, e8, e9, e10, e11⟩ := aP htt
 have htt2 := hti e
 rw [hte] at htt2
 obtain ⟨ii2, dd2, z2, k1, k2, k3, k4, k5, k6, k7, k8, k9, k10, k11⟩ := aP htt2
 have hdd := fT e8
 subst hj
 have hr : (execOp a.eval o).run E.P w = .ok (.value (.pointer (some (ad.add (j * sz))))) w := by
   have hx' : a.eval x = .slice (some ad) xs.length i.c := by rw [(aE hT hx).1]; simp [SV.den, Sl.val, had]
   have hix' : a.eval ix = .int kd j := (aE hT hix).1
   simp [execOp, hop, Instr.indexAt, hx', hix', asIntOf, underlying, e2, hdd, cM k1, k4, hlt]
 refine aQ hr ?_
 rw [hd.1]
 have hput := hT.put (d := d) (v := .e c (ad.add (j * sz)) (enc xs[j]) 0) hd.lt ⟨Nat.le_refl _, fun _ q u hu => by
   rw [gL]
   exact hcs _ u (oQ he hlt hu)⟩
 have hden : (SV.e c (ad.add (j * sz)) (enc xs[j]) 0).den A = .pointer (some (ad.add (j * sz))) := by
   simp [SV.den, Addr.add]
 rw [hden] at hput
 exact ⟨_, ⟨_, hW, hput⟩, hnext (ad.add (j * sz))⟩
theorem uZ {P : Program} (w : World) (base : Nat) (t ty e : TypeId) (i : TypeInfo) (size : Nat) (ht : P.underlying t = some (.slice e)) (hi : P.info? e = some i)
   (v : Value) (m : Nat) (xs : List Value) (hown : w.ownsRow base e size v m xs) (cp : Nat) : (Builtin.append_ #[t, t] ty #[v, .slice none 0 cp]).run P w = .ok v w := by
 rcases hown.2 with ⟨rfl, rfl⟩ | ⟨g, cap, cur, rfl, _, _, hnc, _⟩
 · simp [Builtin.append_, underlying, ht, sizeOf, typeInfo, hi, Builtin.lenOf, Builtin.firstCells]
 · simp [Builtin.append_, underlying, ht, sizeOf, typeInfo, hi, Builtin.lenOf, Builtin.firstCells, hnc, storeCells]
theorem dB0 {P : Program} (w : World) {t e : TypeId} {info : TypeInfo} {z : Value} {sz : Nat} (ty : TypeId) (ht : P.underlying t = some (.slice e)) (hi : P.info? e = some info) (hz : info.zero = some z) (hsz : info.size = sz) (hzs : z.cells.size = sz) (h0 : 0 < sz)
   {i j : Sl} {cs ds : List Value} {p q : Nat} (hown : w.ownsRow 0 e sz (i.val p) p cs) (hrd : RdS w j sz ds q) (h1 : ∀ u ∈ ds, u.oneCell' = true) (hb : (p + q) * info.bytes ≤ 140737488355328) (hm : p + q ≤ maxLen) :
   ∃ (y : Sl) (w' : World), (Builtin.append_ #[t, t] ty #[i.val p, j.val q]).run P w = .ok (y.val (p + q)) w' ∧ w'.ownsRow 0 e sz (y.val (p + q)) (p + q) (cs ++ ds) ∧ w.grownBy w' (i.val p).ownBlock ∧ ((y.val (p + q)).ownBlock = (i.val p).ownBlock ∨ (y.val (p + q)).ownBlock = some w.heap.size) := by
 have key : ∃ v' w', (Builtin.append_ #[t, t] ty #[i.val p, j.val q]).run P w = .ok v' w' ∧ w'.ownsRow 0 e sz v' (p + q) (cs ++ ds) ∧ w.grownBy w' (i.val p).ownBlock ∧ (v'.ownBlock = (i.val p).ownBlock ∨ v'.ownBlock = some w.heap.size) := by
   cases ha : j.a with
   | none =>
     have hq : q = 0 := by
       rcases Nat.eq_zero_or_pos q with h | h
       · exact h
       · obtain ⟨ad, h2, _⟩ := hrd.2.2.2 h
         rw [ha] at h2; cases h2
     subst hq
     have hds : ds = [] := List.eq_nil_of_length_eq_zero (by have := hrd.1; simpa using this)
     subst hds
     refine ⟨_, w, ?_, by simpa using hown, World.grownBy.refl w _, .inl rfl⟩
     have := uZ (P := P) w 0 t ty e info sz ht hi _ p cs hown j.c
     simp only [Sl.val, ha] at this ⊢
     exact this
   | some ad =>
     have hcells : ∀ k u, ds[k]? = some u → w.cell? (ad.add k) = some u := by
       intro k u hu
       have hq : 0 < q := by
         rcases Nat.eq_zero_or_pos q with h | h
         · have : ds = [] := List.eq_nil_of_length_eq_zero (by have := hrd.1; rw [h] at this; simpa using this)
           rw [this] at hu; simp at hu
         · exact h
       obtain ⟨ad', h2, h3⟩ := hrd.2.2.2 hq
       rw [ha] at h2
       injection h2 with h2
       subst h2
       exact h3 k u hu
     obtain ⟨v', w', h2, h3, h4, _, h5⟩ := run_append_own_at (P := P) w 0 t ty e info z sz info.bytes ht hi hz hsz rfl hzs h0 (i.val p) p cs hown ad q j.c ds hrd.1 hcells h1 hm hb (Nat.zero_le _)
     refine ⟨v', w', ?_, h3, h4, h5⟩
     simp only [Sl.val, ha] at h2 ⊢
     exact h2
 obtain ⟨v', w', h2, h3, h4, h5⟩ := key
 have hv : ∃ y : Sl, v' = y.val (p + q) := by
   rcases h3.2 with ⟨h6, h7⟩ | ⟨g, cap, cur, h6, _⟩
   · exact ⟨⟨none, 0⟩, by rw [h6, Sl.val, h7]⟩
   · exact ⟨⟨some ⟨g, 0, none⟩, cap⟩, h6⟩
 obtain ⟨y, rfl⟩ := hv
 exact ⟨y, w', h2, h3, h4, h5⟩
theorem iO (F : List Fct) (k : Nat) : (F.eraseIdx k).Sublist F := List.eraseIdx_sublist F k
theorem eB {F : List Fct} (h : F.Pairwise Dj) {k : Nat} {f : Fct} (hk : F[k]? = some f) : ∀ g ∈ F.eraseIdx k, Dj f g := by
 induction F generalizing k with
 | nil => simp at hk
 | cons x r ih =>
   rw [List.pairwise_cons] at h
   cases k with
   | zero =>
     simp at hk; subst hk
     intro g hg
     exact h.1 g (by simpa using hg)
   | succ k =>
     simp at hk
     intro g hg
     simp at hg
     rcases hg with rfl | hg
     · exact (h.1 f (List.mem_of_getElem? hk)).symm
     · exact ih h.2 hk g hg
theorem WD.turn {w w' : World} (h : WD E A n B M F w) {k : Nat} {i y : Sl} {e sz p q : Nat} {cs ds : List Value} (hk : F[k]? = some (gX false i e sz cs p))
   (hg : w.grownBy w' (i.val p).ownBlock) (ho : w'.ownsRow 0 e sz (y.val q) q ds) (hy : (y.val q).ownBlock = (i.val p).ownBlock ∨ (y.val q).ownBlock = some w.heap.size) :
   WD E A n B M (gX false y e sz ds q :: F.eraseIdx k) w' := by
 have hX : ExtX (fun b => (gX false i e sz cs p).foot b) w w' := by
   refine ExtX.grown hg fun g hgg => ?_
   simp only [Sl.val, Value.ownBlock] at hgg
   cases ha : i.a with
   | none => rw [ha] at hgg; simp at hgg
   | some ad => rw [ha] at hgg; simp at hgg; exact ⟨ad, ha, hgg.symm⟩
 have hfk := h.fct _ (List.mem_of_getElem? hk)
 have hsub := h.sub (iO F k)
 have hdj := eB h.dj hk
 have hW' : WD E A n B M (F.eraseIdx k) w' := by
   refine hsub.grow hX (fun k' ty sz' hk' hf => (hfk.2.1 _ hf).2 k' ty sz' hk' rfl) (fun f hf b hb hb' => hdj f hf (.inl rfl) b hb' hb) (fun b hb hf => ?_)
   exact (hfk.2.2 rfl b hf).resolve_left (by omega)
 have hfoot : ∀ b, (gX false y e sz ds q).foot b → (gX false i e sz cs p).foot b ∨ b = w.heap.size := by
   rintro b ⟨ad, h1, rfl⟩
   simp only [Sl.val, Value.ownBlock, h1] at hy
   rcases hy with hy | hy
   · cases ha : i.a with
     | none => rw [ha] at hy; simp at hy
     | some ad' => rw [ha] at hy; simp at hy; exact .inl ⟨ad', ha, hy⟩
   · simp at hy; exact .inr hy
 refine ⟨hW'.key, hW'.inj, hW'.mem, hW'.a0, hW'.n0, hW'.ext, ?_, ?_⟩
 · intro f hf
   rcases List.mem_cons.1 hf with rfl | hf
   · refine ⟨ho, fun b hb => ?_, fun _ b hb => ?_⟩
     · refine ⟨?_, fun k' ty sz' hk' e => ?_⟩
       · have hlt := ho.lt b (by
           obtain ⟨ad, h1, rfl⟩ := hb
           simp [Sl.val, Value.ownBlock, h1])
         exact hlt.2
       · rcases hfoot b hb with h1 | h1
         · exact (hfk.2.1 b h1).2 k' ty sz' hk' e
         · have := (h.key k' ty sz' hk').2.1
           omega
     · rcases hfoot b hb with h1 | h1
       · exact hfk.2.2 rfl b h1
       · rw [h1]; exact .inl h.ext.size
   · exact hW'.fct f hf
 · rw [List.pairwise_cons]
   refine ⟨fun g hg _ b hb hb' => ?_, hW'.dj⟩
   rcases hfoot b hb with h1 | h1
   · exact hdj g hg (.inl rfl) b h1 hb'
   · have := ((hsub.fct g hg).2.1 b hb').1
     omega
theorem bR {α : Type} {enc : α → List Value} {sz : Nat} (he : Enc enc sz) (k1 : Nat) {xs ys : List α} {i j : Sl} {k : Call} {t e : TypeId} {x y : Operand} {d : Nat} {agg : Bool} {size : Nat} {zero : List Value} {fs : List (Nat × Nat × Bool)} {ik : Option IntKind} {kk bytes : Nat} {agg2 : Bool} {zero2 : List Value} {fs2 : List (Nat × Nat × Bool)} {el2 : Option TypeId} {ik2 : Option IntKind} {kk2 bytes2 : Nat}
   (hti : ∀ t, aT E.P t (ti t)) (hop : o.op = .call k) (hk : k.callee = .builtin .append) (ha : k.args.toList = [x, y]) (hty : k.argTypes.toList = [t, t])
   (hx : aY T x = some (.v (i.val xs.length))) (hy : aY T y = some (.v (j.val ys.length)))
   (ht : ti t = .mk agg size zero fs (some e) ik kk bytes) (hte : ti e = .mk agg2 sz zero2 fs2 el2 ik2 kk2 bytes2) (hz2 : dO zero2 = sz) (hsz0 : 0 < sz) (hd : Dst E o d)
   (hF1 : F[k1]? = some (own i e enc sz xs)) (hF2 : ∀ w, (∀ f ∈ F, f.P w) → RdS w j sz (cells enc ys) ys.length)
   (hb : (xs.length + ys.length) * bytes2 ≤ 140737488355328) (hm : xs.length + ys.length ≤ maxLen)
   (hnext : ∀ y : Sl, next (.mk ((d, .v (y.val (xs ++ ys).length)) :: T) n (c + 1) B M (own y e enc sz (xs ++ ys) :: F.eraseIdx k1))) :
   OpW (cQ E o next T n c B M F) := by
 refine ⟨fun A a w hW hT => ?_⟩
 have htt := hti t
 rw [ht] at htt
 obtain ⟨ii, dd, z, e1, e2, e3, e4, e5, e6, e7, e8, e9, e10, e11⟩ := aP htt
 have htt2 := hti e
 rw [hte] at htt2
 obtain ⟨ii2, dd2, z2, g1, g2, g3, g4, g5, g6, g7, g8, g9, g10, g11⟩ := aP htt2
 have hdd := fT e8
 have hown := (hW.nth k1 hF1).1
 have hrd := hF2 w (fun f hf => (hW.fct f hf).1)
 have hz : z2.cells.size = sz := by rw [← hz2, dN, ← g6]; simp
 obtain ⟨y', w', h1, h2, h3, h4⟩ := dB0 (P := E.P) w o.type (by rw [e2, hdd]) g1 g5 g4 hz hsz0 hown hrd (wV he ys) (by rw [g11]; exact hb) hm
 have hr : (execOp a.eval o).run E.P w = .ok (.value (y'.val (xs.length + ys.length))) w' := by
   have hargs : k.args = #[x, y] := by apply Array.ext'; simpa using ha
   have htys : k.argTypes = #[t, t] := by apply Array.ext'; simpa using hty
   have hx' : a.eval x = i.val xs.length := (aE hT hx).1
   have hy' : a.eval y = j.val ys.length := (aE hT hy).1
   simp only [execOp, hop, resolve, hk, hargs, htys, Sem.run_bind, Sem.run_pure, Result.andThen_ok, invoke, builtin, List.map_toArray, List.map_cons, List.map_nil, hx', hy', h1]
 refine aQ hr ?_
 rw [hd.1]
 have hn := hnext y'
 rw [List.length_append] at hn
 refine ⟨_, ⟨_, ?_, (hT.step w').put (v := .v (y'.val (xs.length + ys.length))) hd.lt trivial⟩, hn⟩
 have := hW.turn hF1 h3 (ds := cells enc xs ++ cells enc ys) h2 h4
 rw [← kI] at this
 show WD E A n B M (gX false y' e sz (cells enc (xs ++ ys)) (xs ++ ys).length :: F.eraseIdx k1) w'
 rw [List.length_append]
 exact this
theorem cB {α : Type} {enc : α → List Value} {sz : Nat} (he : Enc enc sz) {k1 : Nat} {xs ys : List α} {i j : Sl} {k : Call} {t e : TypeId} {x y : Operand} {d : Nat} {agg : Bool} {size : Nat} {zero : List Value} {fs : List (Nat × Nat × Bool)} {ik : Option IntKind} {kk bytes : Nat} {agg2 : Bool} {zero2 : List Value} {fs2 : List (Nat × Nat × Bool)} {el2 : Option TypeId} {ik2 : Option IntKind} {kk2 bytes2 : Nat}
   (hti : ∀ t, aT E.P t (ti t)) (hop : o.op = .call k) (hk : k.callee = .builtin .append) (ha : k.args.toList = [x, y]) (hty : k.argTypes.toList = [t, t])
   (hx : aY T x = some (.v (i.val xs.length))) (hy : aY T y = some (.v (j.val ys.length)))
   (ht : ti t = .mk agg size zero fs (some e) ik kk bytes) (hte : ti e = .mk agg2 sz zero2 fs2 el2 ik2 kk2 bytes2) (hz2 : dO zero2 = sz) (hsz0 : 0 < sz) (hd : Dst E o d)
   (hF1 : IsAt F k1 (own i e enc sz xs)) (hF2 : ∀ w, (∀ f ∈ F, f.P w) → RdS w j sz (cells enc ys) ys.length)
   (hb : (xs.length + ys.length) * bytes2 ≤ 140737488355328) (hm : xs.length + ys.length ≤ maxLen)
   (hnext : ∀ y : Sl, next (.mk ((d, .v (y.val (xs ++ ys).length)) :: T) n (c + 1) B M (own y e enc sz (xs ++ ys) :: F.eraseIdx k1))) :
   OpW (cQ E o next T n c B M F) :=
 bR he k1 hti hop hk ha hty hx hy ht hte hz2 hsz0 hd hF1.h hF2 hb hm hnext
end
abbrev slo {α : Type} (i : Sl) (enc : α → List Value) (sz : Nat) (xs : List α) : Fct := fSl true i sz (cells enc xs) xs.length
def jX : List Fct → Prop
 | [] => True
 | f :: r => f.isOwn = false ∧ f.old = true ∧ jX r
theorem fL : ∀ {F : List Fct}, jX F → ∀ f ∈ F, f.isOwn = false ∧ f.old = true
 | [], _, f, hf => by cases hf
 | g :: r, h, f, hf => by
   rcases List.mem_cons.1 hf with rfl | hf
   · exact ⟨h.1, h.2.1⟩
   · exact fL h.2.2 f hf
theorem vA {w : World} : ∀ {F : List Fct}, At w F → ∀ f ∈ F, f.P w ∧ ∀ b, f.foot b → b < w.heap.size
 | [], _, f, hf => by cases hf
 | g :: r, h, f, hf => by
   rcases List.mem_cons.1 hf with rfl | hf
   · exact h.1
   · exact vA h.2 f hf
theorem WD.init (P : Program) (w : World) (N : Nat) (A : Nat → Nat) {F : List Fct} (h : At w F) (ho : jX F) : WD (jA P w N) A 0 [] [] F w := by
 refine ⟨by simp, by simp, by simp [dP], by simp, Nat.le_refl _, ExtX.refl _ _, fun f hf => ?_, ?_⟩
 · obtain ⟨h1, h2⟩ := vA h f hf
   obtain ⟨h3, h4⟩ := fL ho f hf
   exact ⟨h1, fun b hb => ⟨h2 b hb, by simp⟩, fun e => by rw [h4] at e; cases e⟩
 · rw [List.pairwise_iff_getElem]
   intro i j hi hj _ hor
   rw [(fL ho _ (List.getElem_mem hi)).1, (fL ho _ (List.getElem_mem hj)).1] at hor
   simp at hor
section
variable {P : Program} {f : FuncId} {fn : Func} {x : Code} {R : Ending → World → Prop} {ti : Nat → TI}
theorem oR (hf : P.funcs[f]? = some fn) (hb : fn.body = some x) (hti : ∀ t, aT P t (ti t)) (w : World) (N : Nat) (hN : fn.ntmps = N) (rs : List ResultVar) (hrs : fn.results.toList = rs) (F : List Fct) (hF : At w F) (ho : jX F)
   (l : List Value) (hl : l.length ≤ N)
   (hv : dJ (jA P w N) ti x (mT (jA P w N) ti rs R) (.mk (rA 0 (l.map .v)) 0 0 [] [] F)) : Calls P f l.toArray w R := by
 subst hN; subst hrs
 exact rB hf hb (jA P w fn.ntmps) rfl rfl hti (l.map .v) 0 [] [] F (A := fun _ => 0) (by simp [show (SV.den (fun _ => 0) ∘ SV.v) = id from rfl]) (fun s hs => by obtain ⟨u, _, rfl⟩ := List.mem_map.1 hs; trivial) z80 (WD.init P w _ _ hF ho) hv
variable (hf : P.funcs[f]? = some fn) (hb : fn.body = some x) (hti : ∀ t, aT P t (ti t)) (w : World) (N : Nat) (hN : fn.ntmps = N) (rs : List ResultVar) (hrs : fn.results.toList = rs) (F : List Fct) (hF : At w F) (ho : jX F)
 include hf hb hti hN hrs hF ho
theorem lQ0 (hv : dJ (jA P w N) ti x (mT (jA P w N) ti rs R) (.mk [] 0 0 [] [] F)) : Calls P f #[] w R :=
 oR hf hb hti w N hN rs hrs F hF ho [] (Nat.zero_le _) hv
theorem bU (a : Value) (hl : 1 ≤ N) (hv : dJ (jA P w N) ti x (mT (jA P w N) ti rs R) (.mk [(0, .v a)] 0 0 [] [] F)) : Calls P f #[a] w R :=
 oR hf hb hti w N hN rs hrs F hF ho [a] hl hv
theorem cN (a b : Value) (hl : 2 ≤ N) (hv : dJ (jA P w N) ti x (mT (jA P w N) ti rs R) (.mk [(0, .v a), (1, .v b)] 0 0 [] [] F)) : Calls P f #[a, b] w R :=
 oR hf hb hti w N hN rs hrs F hF ho [a, b] hl hv
theorem mF (a b c : Value) (hl : 3 ≤ N) (hv : dJ (jA P w N) ti x (mT (jA P w N) ti rs R) (.mk [(0, .v a), (1, .v b), (2, .v c)] 0 0 [] [] F)) : Calls P f #[a, b, c] w R :=
 oR hf hb hti w N hN rs hrs F hF ho [a, b, c] hl hv
theorem lR0 (a b c d : Value) (hl : 4 ≤ N) (hv : dJ (jA P w N) ti x (mT (jA P w N) ti rs R) (.mk [(0, .v a), (1, .v b), (2, .v c), (3, .v d)] 0 0 [] [] F)) : Calls P f #[a, b, c, d] w R :=
 oR hf hb hti w N hN rs hrs F hF ho [a, b, c, d] hl hv
end
theorem lS0 {P : Program} {w : World} {N : Nat} {A : Nat → Nat} {n : Nat} {B : List (Nat × TypeId × Nat)} {M : List ((Nat × Nat) × SV)} {F : List Fct} {w' : World} {R : Value → List Fct → Prop} (h : WD (jA P w N) A n B M F w') {v : Value} (L : List Fct) (hL : L.Sublist F) (ho : ∀ f ∈ L, f.old = false) (hR : R v L) : Ret w R (.returned v) w' := by
 have hs := h.sub hL
 refine ⟨v, L, rfl, ⟨h.ext.os, h.ext.tape, h.ext.output, h.ext.size, h.ext.block⟩, ⟨fun f hf => ?_, hs.dj⟩, hR⟩
 obtain ⟨h1, h2, h3⟩ := hs.fct f hf
 exact ⟨h1, ho f hf, fun b hb => ⟨(h3 (ho f hf) b hb).resolve_right (fun h => h), (h2 b hb).1⟩⟩
def nK : List Fct → Prop
 | [] => True
 | f :: r => f.old = false ∧ nK r
theorem dY : ∀ {F : List Fct}, nK F → ∀ f ∈ F, f.old = false
 | [], _, f, hf => by cases hf
 | g :: r, h, f, hf => by
   rcases List.mem_cons.1 hf with rfl | hf
   · exact h.1
   · exact dY h.2 f hf
def MW (M : List ((Nat × Nat) × SV)) (n : Nat) : List ((Nat × Nat) × SV) → Prop
 | [] => True
 | ((k, o), v) :: r => (∃ v', dP M k o = some v' ∧ v' = v ∧ v.small n) ∧ MW M n r
def MBW (B : List (Nat × TypeId × Nat)) : List ((Nat × Nat) × SV) → Prop
 | [] => True
 | ((k, _), _) :: r => (∃ sz, uW B k = some sz) ∧ MBW B r
theorem uJ {B : List (Nat × TypeId × Nat)} : ∀ {M : List ((Nat × Nat) × SV)}, MBW B M → ∀ k o v, dP M k o = some v → ∃ ty sz, (k, ty, sz) ∈ B
 | [], _, k, o, v, h => by simp [dP] at h
 | ((k', o'), u) :: r, h, k, o, v, hv => by
   rw [kW] at hv
   by_cases e : k' = k ∧ o' = o
   · obtain ⟨rfl, rfl⟩ := e
     obtain ⟨⟨sz, h1⟩, _⟩ := h
     obtain ⟨t, ht⟩ := pK h1
     exact ⟨t, sz, ht⟩
   · simp [e] at hv; exact uJ h.2 k o v hv
def BW (B : List (Nat × TypeId × Nat)) (n : Nat) : List (Nat × TypeId × Nat) → Prop
 | [] => True
 | b :: r => (b ∈ B ∧ b.1 < n) ∧ BW B n r
def eF : Fct → Prop
 | .own old i _ _ cs n => old = false ∧ i = ⟨none, 0⟩ ∧ cs = [] ∧ n = 0
 | _ => False
def FW (F : List Fct) : List Nat → List Fct → Prop
 | [], [] => True
 | i :: ix, f :: r => ((∃ g, F[i]? = some g ∧ g = f) ∨ (F.length ≤ i ∧ eF f)) ∧ FW F ix r
 | _, _ => False
theorem hH {f : Fct} (h : eF f) (w : World) : f.P w ∧ (∀ b, ¬ f.foot b) ∧ f.old = false := by
 cases f with
 | own old i e sz cs n =>
   obtain ⟨rfl, rfl, rfl, rfl⟩ := h
   exact ⟨World.ownsRow_nil w 0 e sz, fun b hb => (by obtain ⟨ad, h, _⟩ := hb; cases h), rfl⟩
 | _ => exact h.elim
theorem vB {M : List ((Nat × Nat) × SV)} {n : Nat} : ∀ {M' : List ((Nat × Nat) × SV)}, MW M n M' → ∀ k o v, dP M' k o = some v → dP M k o = some v ∧ v.small n
 | [], _, k, o, v, h => by simp [dP] at h
 | ((k', o'), u) :: r, h, k, o, v, hv => by
   rw [kW] at hv
   obtain ⟨⟨v', h1, rfl, h2⟩, h3⟩ := h
   by_cases e : k' = k ∧ o' = o
   · obtain ⟨rfl, rfl⟩ := e; simp at hv; subst hv; exact ⟨h1, h2⟩
   · simp [e] at hv; exact vB h3 k o v hv
theorem gG0 {B : List (Nat × TypeId × Nat)} {n : Nat} : ∀ {B' : List (Nat × TypeId × Nat)}, BW B n B' → ∀ b ∈ B', b ∈ B ∧ b.1 < n
 | [], _, b, h => by cases h
 | x :: r, h, b, hb => by
   rcases List.mem_cons.1 hb with rfl | hb
   · exact h.1
   · exact gG0 h.2 b hb
theorem gH0 {F : List Fct} : ∀ {ix : List Nat} {F' : List Fct}, FW F ix F' → ix.length = F'.length ∧ ∀ (k : Nat) (f : Fct), F'[k]? = some f → (∃ i : Nat, ix[k]? = some i ∧ F[i]? = some f) ∨ eF f
 | [], [], _ => ⟨rfl, by simp⟩
 | [], _ :: _, h => h.elim
 | _ :: _, [], h => h.elim
 | i :: ix, f :: r, h => by
   obtain ⟨h1, h2⟩ := h
   obtain ⟨h3, h4⟩ := gH0 h2
   refine ⟨by simp [h3], fun k f' hk => ?_⟩
   cases k with
   | zero =>
     simp at hk; subst hk
     rcases h1 with ⟨g, h1, rfl⟩ | ⟨_, h1⟩
     · exact .inl ⟨i, by simp, h1⟩
     · exact .inr h1
   | succ k =>
     simp at hk
     rcases h4 k f' hk with ⟨j, h5, h6⟩ | h5
     · exact .inl ⟨j, by simpa using h5, h6⟩
     · exact .inr h5
def hJ : List Nat → Bool
 | [] => true
 | x :: r => (match r.contains x with
   | true => false
   | false => hJ r)
theorem sO : ∀ {l : List Nat}, hJ l = true → l.Nodup
 | [], _ => List.nodup_nil
 | x :: r, h => by
   simp only [hJ] at h
   split at h
   · cases h
   · rename_i hx
     rw [List.nodup_cons]
     exact ⟨by simpa using hx, sO h⟩
theorem fW {F : List Fct} (h : F.Pairwise Dj) {i j : Nat} (hij : i ≠ j) {f g : Fct} (hi : F[i]? = some f) (hj : F[j]? = some g) : Dj f g := by
 obtain ⟨hi1, rfl⟩ := List.getElem?_eq_some_iff.1 hi
 obtain ⟨hj1, rfl⟩ := List.getElem?_eq_some_iff.1 hj
 rcases Nat.lt_or_gt_of_ne hij with hlt | hgt
 · exact List.pairwise_iff_getElem.1 h i j hi1 hj1 hlt
 · exact (List.pairwise_iff_getElem.1 h j i hj1 hi1 hgt).symm
theorem WD.pick {E : Env} {A : Nat → Nat} {n : Nat} {B : List (Nat × TypeId × Nat)} {M : List ((Nat × Nat) × SV)} {F F' : List Fct} {w : World} (h : WD E A n B M F w) (ix : List Nat) (hF : FW F ix F') (hix : hJ ix = true) : WD E A n B M F' w := by
 obtain ⟨hl, hpick⟩ := gH0 hF
 have hnd := sO hix
 refine ⟨h.key, h.inj, h.mem, h.a0, h.n0, h.ext, ?_, ?_⟩
 · intro f hf
   obtain ⟨k, hk⟩ := List.getElem?_of_mem hf
   rcases hpick k f hk with ⟨i, _, hi⟩ | hn
   · exact h.fct f (List.mem_of_getElem? hi)
   · obtain ⟨g1, g2, g3⟩ := hH hn w
     exact ⟨g1, fun b hb => (g2 b hb).elim, fun _ b hb => (g2 b hb).elim⟩
 · rw [List.pairwise_iff_getElem]
   intro p q hp hq hpq
   rcases hpick p _ (List.getElem?_eq_getElem hp) with ⟨i, h1, h2⟩ | hn
   · rcases hpick q _ (List.getElem?_eq_getElem hq) with ⟨j, h3, h4⟩ | hn
     · refine fW h.dj (fun e => ?_) h2 h4
       subst e
       have hpl := (List.getElem?_eq_some_iff.1 h1).1
       have hql := (List.getElem?_eq_some_iff.1 h3).1
       exact List.pairwise_iff_getElem.1 hnd p q hpl hql hpq (by rw [(List.getElem?_eq_some_iff.1 h1).2, (List.getElem?_eq_some_iff.1 h3).2])
     · exact fun _ b _ hb => (hH hn w).2.1 b hb
   · exact fun _ b hb => ((hH hn w).2.1 b hb).elim
theorem bY {P : Program} {w : World} {N : Nat} {n : Nat} {B : List (Nat × TypeId × Nat)} {M : List ((Nat × Nat) × SV)} {F : List Fct} {R : Value → List Fct → Prop} {l : List SV} (ix : List Nat) {L : List Fct} {v : Value} (hR : R v L) (hF : FW F ix L) (hix : hJ ix = true) (ho : nK L) (hv : ∀ A, hD A l = v) :
   RetW (∀ A w', WD (jA P w N) A n B M F w' → Ret w R (.returned (hD A l)) w') :=
 ⟨fun A w' h => by rw [hv A]; exact lS0 (h.pick ix hF hix) L (List.Sublist.refl _) (dY ho) hR⟩
theorem aG {P : Program} {w : World} {N : Nat} {n : Nat} {B : List (Nat × TypeId × Nat)} {M : List ((Nat × Nat) × SV)} {F : List Fct} {R : Value → List Fct → Prop} {l : List SV} {v : Value} (hR : R v []) (hv : ∀ A, hD A l = v) :
 RetW (∀ A w', WD (jA P w N) A n B M F w' → Ret w R (.returned (hD A l)) w') := bY [] hR trivial rfl trivial hv
theorem SV.okT_of_small {n c : Nat} {w : World} {v : SV} (h : v.small n) : v.okT n c w := SV.small_okT h
inductive SVeq : SV → SV → Prop
 | of {u v : SV} (h : u = v) : SVeq u v
 | lit {b b' : Bool} (h : b = b') : SVeq (.lit b) (.v (.bool b'))
 | unlit {b b' : Bool} (h : b = b') : SVeq (.v (.bool b)) (.lit b')
theorem SVeq.den {u v : SV} (h : SVeq u v) (A : Nat → Nat) : u.den A = v.den A := by
 cases h with
 | of h => rw [h]
 | lit h => rw [h]; rfl
 | unlit h => rw [h]; rfl
def TWe (T : List (Nat × SV)) (n : Nat) : List (Nat × SV) → Prop
 | [] => True
 | (t, v) :: r => (∃ v', oH T t = some v' ∧ SVeq v' v ∧ v.small n) ∧ TWe T n r
def MWe (M : List ((Nat × Nat) × SV)) (n : Nat) : List ((Nat × Nat) × SV) → Prop
 | [] => True
 | ((k, o), v) :: r => (∃ v', dP M k o = some v' ∧ SVeq v' v ∧ v.small n) ∧ MWe M n r
theorem dC0 {T : List (Nat × SV)} {n : Nat} : ∀ {T' : List (Nat × SV)}, TWe T n T' → ∀ t v, oH T' t = some v → ∃ v', oH T t = some v' ∧ SVeq v' v ∧ v.small n
 | [], _, t, v, h => by simp [oH] at h
 | (k, u) :: r, h, t, v, hv => by
   rw [pI] at hv
   obtain ⟨h1, h3⟩ := h
   by_cases e : k = t
   · subst e; simp at hv; subst hv; exact h1
   · simp [e] at hv; exact dC0 h3 t v hv
theorem dD0 {M : List ((Nat × Nat) × SV)} {n : Nat} : ∀ {M' : List ((Nat × Nat) × SV)}, MWe M n M' → ∀ k o v, dP M' k o = some v → ∃ v', dP M k o = some v' ∧ SVeq v' v ∧ v.small n
 | [], _, k, o, v, h => by simp [dP] at h
 | ((k', o'), u) :: r, h, k, o, v, hv => by
   rw [kW] at hv
   obtain ⟨h1, h3⟩ := h
   by_cases e : k' = k ∧ o' = o
   · obtain ⟨rfl, rfl⟩ := e; simp at hv; subst hv; exact h1
   · simp [e] at hv; exact dD0 h3 k o v hv
theorem aC {E : Env} {T T' : List (Nat × SV)} {n n' c c' : Nat} {B B' : List (Nat × TypeId × Nat)} {M M' : List ((Nat × Nat) × SV)} {F F' : List Fct} (ix : List Nat)
   (hT : TWe T n' T') (hB : BW B n' B') (hM : MWe M n' M') (hMB : MBW B' M') (hF : FW F ix F') (hix : hJ ix = true) (hn0 : Nat.ble E.n0 n' = true) :
   Weak E (.mk T n c B M F) (.mk T' n' c' B' M' F') := by
 rintro a w ⟨A, hW0, hT0⟩
 have hB' := gG0 hB
 have hW := hW0.pick ix hF hix
 refine ⟨A, ⟨?_, ?_, ?_, hW.a0, Nat.le_of_ble_eq_true hn0, hW.ext, ?_, hW.dj⟩, hT0.size, hT0.defers, ?_⟩
 · intro k ty sz hk
   obtain ⟨h1, h2⟩ := hB' _ hk
   obtain ⟨g1, g2⟩ := hW.key k ty sz h1
   exact ⟨h2, g2⟩
 · intro k ty sz k' ty' sz' h1 h2
   exact hW.inj k ty sz k' ty' sz' (hB' _ h1).1 (hB' _ h2).1
 · intro k o v hv
   obtain ⟨v', h1, h2, h3⟩ := dD0 hM k o v hv
   exact ⟨uJ hMB k o v hv, by rw [← h2.den A]; exact (hW.mem k o v' h1).2.1, h3⟩
 · intro f hf
   obtain ⟨g1, g2, g3⟩ := hW.fct f hf
   exact ⟨g1, fun b hb => ⟨(g2 b hb).1, fun k ty sz hk => (g2 b hb).2 k ty sz (hB' _ hk).1⟩, g3⟩
 · intro t v hv
   obtain ⟨v', h1, h2, h3⟩ := dC0 hT t v hv
   exact ⟨by rw [← h2.den A]; exact (hT0.tm t v' h1).1, SV.okT_of_small h3⟩
end Go.Sx
namespace Go.Proofs.YtchkcjeeknfchaaGreatDoor
open Go Go.Sx Go.RowKit
def tab : List (Nat × TI) := [
 (2, .mk false 1 [.int .i64 0] [] none (some .i64) 0 8),
 (3, .mk false 1 [.int .i64 0] [] none (some .i64) 0 8),
 (4, .mk false 1 [.bool false] [] none none 1 1),
 (5, .mk false 1 [.int .u8 0] [] none (some .u8) 0 1),
 (6, .mk false 1 [.int .u8 0] [] none (some .u8) 0 1),
 (7, .mk true 4 [.int .i64 0, .int .i64 0, .bool false, .int .u8 0] [(0, 1, false), (1, 1, false), (2, 1, false), (3, 1, false)] none none 0 24),
 (8, .mk true 4 [.int .i64 0, .int .i64 0, .bool false, .int .u8 0] [(0, 1, false), (1, 1, false), (2, 1, false), (3, 1, false)] none none 0 24),
 (9, .mk false 1 [.string ⟨#[]⟩] [] none none 2 16),
 (10, .mk false 1 [.string ⟨#[]⟩] [] none none 2 16),
 (11, .mk false 1 [.string ⟨#[]⟩] [] none none 2 16),
 (12, .mk false 1 [.int .u64 0] [] none (some .u64) 0 8),
 (13, .mk true 2 [.string ⟨#[]⟩, .int .u64 0] [(0, 1, false), (1, 1, false)] none none 0 24),
 (14, .mk true 2 [.string ⟨#[]⟩, .int .u64 0] [(0, 1, false), (1, 1, false)] none none 0 24),
 (15, .mk false 1 [.pointer none] [] none none 0 8),
 (16, .mk false 1 [.pointer none] [] none none 0 8),
 (17, .mk false 1 [.pointer none] [] none none 0 8),
 (18, .mk true 1 [.pointer none] [(0, 1, false)] none none 0 8),
 (19, .mk true 1 [.pointer none] [(0, 1, false)] none none 0 8),
 (21, .mk false 1 [.int .i32 0] [] none (some .i32) 0 4),
 (22, .mk false 1 [.slice none 0 0] [] (some 3) none 3 24),
 (23, .mk false 1 [.slice none 0 0] [] (some 115) none 3 24),
 (24, .mk true 5 [.slice none 0 0, .slice none 0 0, .slice none 0 0, .slice none 0 0, .slice none 0 0] [(0, 1, false), (1, 1, false), (2, 1, false), (3, 1, false), (4, 1, false)] none none 0 120),
 (25, .mk true 5 [.slice none 0 0, .slice none 0 0, .slice none 0 0, .slice none 0 0, .slice none 0 0] [(0, 1, false), (1, 1, false), (2, 1, false), (3, 1, false), (4, 1, false)] none none 0 120),
 (26, .mk false 1 [.slice none 0 0] [] (some 119) none 3 24),
 (27, .mk false 1 [.slice none 0 0] [] (some 121) none 3 24),
 (28, .mk false 1 [.slice none 0 0] [] (some 123) none 3 24),
 (29, .mk false 1 [.slice none 0 0] [] (some 125) none 3 24),
 (30, .mk false 1 [.slice none 0 0] [] (some 129) none 3 24),
 (31, .mk true 9 [.slice none 0 0, .slice none 0 0, .slice none 0 0, .slice none 0 0, .slice none 0 0, .slice none 0 0, .slice none 0 0, .slice none 0 0, .int .i64 0] [(0, 1, false), (1, 1, false), (2, 1, false), (3, 1, false), (4, 1, false), (5, 1, false), (6, 1, false), (7, 1, false), (8, 1, false)] none none 0 200),
 (32, .mk true 9 [.slice none 0 0, .slice none 0 0, .slice none 0 0, .slice none 0 0, .slice none 0 0, .slice none 0 0, .slice none 0 0, .slice none 0 0, .int .i64 0] [(0, 1, false), (1, 1, false), (2, 1, false), (3, 1, false), (4, 1, false), (5, 1, false), (6, 1, false), (7, 1, false), (8, 1, false)] none none 0 200),
 (36, .mk false 1 [.slice none 0 0] [] (some 105) none 3 24),
 (37, .mk true 5 [.slice none 0 0, .slice none 0 0, .slice none 0 0, .slice none 0 0, .slice none 0 0] [(0, 1, false), (1, 1, false), (2, 1, false), (3, 1, false), (4, 1, false)] none none 0 120),
 (38, .mk true 5 [.slice none 0 0, .slice none 0 0, .slice none 0 0, .slice none 0 0, .slice none 0 0] [(0, 1, false), (1, 1, false), (2, 1, false), (3, 1, false), (4, 1, false)] none none 0 120),
 (40, .mk false 1 [.slice none 0 0] [] (some 85) none 3 24),
 (41, .mk false 1 [.slice none 0 0] [] (some 98) none 3 24),
 (42, .mk false 1 [.slice none 0 0] [] (some 88) none 3 24),
 (43, .mk false 1 [.slice none 0 0] [] (some 91) none 3 24),
 (44, .mk false 1 [.slice none 0 0] [] (some 95) none 3 24),
 (45, .mk true 9 [.slice none 0 0, .slice none 0 0, .slice none 0 0, .slice none 0 0, .slice none 0 0, .slice none 0 0, .slice none 0 0, .slice none 0 0, .int .i64 0] [(0, 1, false), (1, 1, false), (2, 1, false), (3, 1, false), (4, 1, false), (5, 1, false), (6, 1, false), (7, 1, false), (8, 1, false)] none none 0 200),
 (46, .mk true 9 [.slice none 0 0, .slice none 0 0, .slice none 0 0, .slice none 0 0, .slice none 0 0, .slice none 0 0, .slice none 0 0, .slice none 0 0, .int .i64 0] [(0, 1, false), (1, 1, false), (2, 1, false), (3, 1, false), (4, 1, false), (5, 1, false), (6, 1, false), (7, 1, false), (8, 1, false)] none none 0 200),
 (51, .mk false 1 [.slice none 0 0] [] (some 5) none 3 24),
 (63, .mk false 1 [.slice none 0 0] [] (some 9) none 3 24),
 (83, .mk false 1 [.slice none 0 0] [] (some 161) none 3 24),
 (84, .mk true 3 [.int .i64 0, .int .i64 0, .slice none 0 0] [(0, 1, false), (1, 1, false), (2, 1, false)] none none 0 40),
 (85, .mk true 3 [.int .i64 0, .int .i64 0, .slice none 0 0] [(0, 1, false), (1, 1, false), (2, 1, false)] none none 0 40),
 (87, .mk true 2 [.int .i64 0, .slice none 0 0] [(0, 1, false), (1, 1, false)] none none 0 32),
 (88, .mk true 2 [.int .i64 0, .slice none 0 0] [(0, 1, false), (1, 1, false)] none none 0 32),
 (90, .mk true 3 [.int .i64 0, .int .i64 0, .slice none 0 0] [(0, 1, false), (1, 1, false), (2, 1, false)] none none 0 40),
 (91, .mk true 3 [.int .i64 0, .int .i64 0, .slice none 0 0] [(0, 1, false), (1, 1, false), (2, 1, false)] none none 0 40),
 (93, .mk false 1 [.slice none 0 0] [] (some 164) none 3 24),
 (94, .mk true 5 [.int .i64 0, .slice none 0 0, .slice none 0 0, .slice none 0 0, .bool false] [(0, 1, false), (1, 1, false), (2, 1, false), (3, 1, false), (4, 1, false)] none none 0 88),
 (95, .mk true 5 [.int .i64 0, .slice none 0 0, .slice none 0 0, .slice none 0 0, .bool false] [(0, 1, false), (1, 1, false), (2, 1, false), (3, 1, false), (4, 1, false)] none none 0 88),
 (97, .mk true 4 [.int .i64 0, .int .i64 0, .int .i64 0, .slice none 0 0] [(0, 1, false), (1, 1, false), (2, 1, false), (3, 1, false)] none none 0 48),
 (98, .mk true 4 [.int .i64 0, .int .i64 0, .int .i64 0, .slice none 0 0] [(0, 1, false), (1, 1, false), (2, 1, false), (3, 1, false)] none none 0 48),
 (101, .mk false 1 [.map none] [] none none 0 8),
 (102, .mk false 1 [.map none] [] none none 0 8),
 (105, .mk false 1 [.slice none 0 0] [] (some 108) none 3 24),
 (106, .mk false 1 [.slice none 0 0] [] (some 110) none 3 24),
 (107, .mk true 3 [.int .i64 0, .int .i64 0, .int .i64 0] [(0, 1, false), (1, 1, false), (2, 1, false)] none none 0 24),
 (108, .mk true 3 [.int .i64 0, .int .i64 0, .int .i64 0] [(0, 1, false), (1, 1, false), (2, 1, false)] none none 0 24),
 (109, .mk true 3 [.int .i64 0, .int .i64 0, .int .i64 0] [(0, 1, false), (1, 1, false), (2, 1, false)] none none 0 24),
 (110, .mk true 3 [.int .i64 0, .int .i64 0, .int .i64 0] [(0, 1, false), (1, 1, false), (2, 1, false)] none none 0 24),
 (115, .mk false 1 [.slice none 0 0] [] (some 174) none 3 24),
 (117, .mk false 1 [.slice none 0 0] [] (some 193) none 3 24),
 (118, .mk true 3 [.int .i64 0, .int .i64 0, .slice none 0 0] [(0, 1, false), (1, 1, false), (2, 1, false)] none none 0 40),
 (119, .mk true 3 [.int .i64 0, .int .i64 0, .slice none 0 0] [(0, 1, false), (1, 1, false), (2, 1, false)] none none 0 40),
 (121, .mk true 4 [.int .i64 0, .int .i64 0, .int .i64 0, .slice none 0 0] [(0, 1, false), (1, 1, false), (2, 1, false), (3, 1, false)] none none 0 48),
 (123, .mk true 2 [.int .i64 0, .slice none 0 0] [(0, 1, false), (1, 1, false)] none none 0 32),
 (125, .mk true 3 [.int .i64 0, .int .i64 0, .slice none 0 0] [(0, 1, false), (1, 1, false), (2, 1, false)] none none 0 40),
 (127, .mk false 1 [.slice none 0 0] [] (some 195) none 3 24),
 (128, .mk true 5 [.int .i64 0, .slice none 0 0, .slice none 0 0, .slice none 0 0, .bool false] [(0, 1, false), (1, 1, false), (2, 1, false), (3, 1, false), (4, 1, false)] none none 0 88),
 (129, .mk true 5 [.int .i64 0, .slice none 0 0, .slice none 0 0, .slice none 0 0, .bool false] [(0, 1, false), (1, 1, false), (2, 1, false), (3, 1, false), (4, 1, false)] none none 0 88),
 (136, .mk false 1 [.pointer none] [] none none 0 8),
 (137, .mk true 2 [.pointer none, .slice none 0 0] [(0, 1, false), (1, 1, false)] none none 0 32),
 (138, .mk true 2 [.pointer none, .slice none 0 0] [(0, 1, false), (1, 1, false)] none none 0 32),
 (151, .mk false 1 [.pointer none] [] none none 0 8),
 (160, .mk true 2 [.int .i64 0, .int .i64 0] [(0, 1, false), (1, 1, false)] none none 0 16),
 (161, .mk true 2 [.int .i64 0, .int .i64 0] [(0, 1, false), (1, 1, false)] none none 0 16),
 (163, .mk true 2 [.int .i64 0, .int .i64 0] [(0, 1, false), (1, 1, false)] none none 0 16),
 (164, .mk true 2 [.int .i64 0, .int .i64 0] [(0, 1, false), (1, 1, false)] none none 0 16),
 (174, .mk true 3 [.int .i64 0, .int .i64 0, .int .i64 0] [(0, 1, false), (1, 1, false), (2, 1, false)] none none 0 24),
 (178, .mk false 1 [.pointer none] [] none none 0 8),
 (182, .mk true 2 [.slice none 0 0, .int .i64 0] [(0, 1, false), (1, 1, false)] none none 0 32),
 (183, .mk true 2 [.slice none 0 0, .int .i64 0] [(0, 1, false), (1, 1, false)] none none 0 32),
 (189, .mk false 1 [.map none] [] none none 0 8),
 (193, .mk true 2 [.int .i64 0, .int .i64 0] [(0, 1, false), (1, 1, false)] none none 0 16),
 (195, .mk true 2 [.int .i64 0, .int .i64 0] [(0, 1, false), (1, 1, false)] none none 0 16),
 (197, .mk false 1 [.int .u64 0] [] none (some .u64) 0 8),
 (202, .mk false 1 [.pointer none] [] none none 0 8),
 (225, .mk false 1 [.int .u32 0] [] none (some .u32) 0 4),
 (227, .mk false 1 [.int .u64 0] [] none (some .u64) 0 8),
 (275, .mk true 4 [.pointer none, .pointer none, .pointer none, .string ⟨#[]⟩] [(0, 1, false), (1, 1, false), (2, 1, false), (3, 1, false)] none none 0 40),
 (276, .mk true 4 [.pointer none, .pointer none, .pointer none, .string ⟨#[]⟩] [(0, 1, false), (1, 1, false), (2, 1, false), (3, 1, false)] none none 0 40),
 (281, .mk false 1 [.int .u8 0] [] none (some .u8) 0 1),
 (282, .mk false 1 [.int .u8 0] [] none (some .u8) 0 1),
 (284, .mk false 1 [.int .i32 0] [] none (some .i32) 0 4),
 (285, .mk false 1 [.int .i32 0] [] none (some .i32) 0 4)]
theorem ti2 : aT Tryz.prog 2 (.mk false 1 [.int .i64 0] [] none (some .i64) 0 8) := by
 show aV Tryz.prog 2 = _
 kernel_rfl
theorem ti3 : aT Tryz.prog 3 (.mk false 1 [.int .i64 0] [] none (some .i64) 0 8) := by
 show aV Tryz.prog 3 = _
 kernel_rfl
theorem ti4 : aT Tryz.prog 4 (.mk false 1 [.bool false] [] none none 1 1) := by
 show aV Tryz.prog 4 = _
 kernel_rfl
theorem ti5 : aT Tryz.prog 5 (.mk false 1 [.int .u8 0] [] none (some .u8) 0 1) := by
 show aV Tryz.prog 5 = _
 kernel_rfl
theorem ti6 : aT Tryz.prog 6 (.mk false 1 [.int .u8 0] [] none (some .u8) 0 1) := by
 show aV Tryz.prog 6 = _
 kernel_rfl
theorem ti7 : aT Tryz.prog 7 (.mk true 4 [.int .i64 0, .int .i64 0, .bool false, .int .u8 0] [(0, 1, false), (1, 1, false), (2, 1, false), (3, 1, false)] none none 0 24) := by
 show aV Tryz.prog 7 = _
 kernel_rfl
theorem ti8 : aT Tryz.prog 8 (.mk true 4 [.int .i64 0, .int .i64 0, .bool false, .int .u8 0] [(0, 1, false), (1, 1, false), (2, 1, false), (3, 1, false)] none none 0 24) := by
 show aV Tryz.prog 8 = _
 kernel_rfl
theorem ti9 : aT Tryz.prog 9 (.mk false 1 [.string ⟨#[]⟩] [] none none 2 16) := by
 show aV Tryz.prog 9 = _
 kernel_rfl
theorem ti10 : aT Tryz.prog 10 (.mk false 1 [.string ⟨#[]⟩] [] none none 2 16) := by
 show aV Tryz.prog 10 = _
 kernel_rfl
theorem ti11 : aT Tryz.prog 11 (.mk false 1 [.string ⟨#[]⟩] [] none none 2 16) := by
 show aV Tryz.prog 11 = _
 kernel_rfl
theorem ti12 : aT Tryz.prog 12 (.mk false 1 [.int .u64 0] [] none (some .u64) 0 8) := by
 show aV Tryz.prog 12 = _
 kernel_rfl
theorem ti13 : aT Tryz.prog 13 (.mk true 2 [.string ⟨#[]⟩, .int .u64 0] [(0, 1, false), (1, 1, false)] none none 0 24) := by
 show aV Tryz.prog 13 = _
 kernel_rfl
theorem ti14 : aT Tryz.prog 14 (.mk true 2 [.string ⟨#[]⟩, .int .u64 0] [(0, 1, false), (1, 1, false)] none none 0 24) := by
 show aV Tryz.prog 14 = _
 kernel_rfl
theorem ti15 : aT Tryz.prog 15 (.mk false 1 [.pointer none] [] none none 0 8) := by
 show aV Tryz.prog 15 = _
 kernel_rfl
theorem ti16 : aT Tryz.prog 16 (.mk false 1 [.pointer none] [] none none 0 8) := by
 show aV Tryz.prog 16 = _
 kernel_rfl
theorem ti17 : aT Tryz.prog 17 (.mk false 1 [.pointer none] [] none none 0 8) := by
 show aV Tryz.prog 17 = _
 kernel_rfl
theorem ti18 : aT Tryz.prog 18 (.mk true 1 [.pointer none] [(0, 1, false)] none none 0 8) := by
 show aV Tryz.prog 18 = _
 kernel_rfl
theorem ti19 : aT Tryz.prog 19 (.mk true 1 [.pointer none] [(0, 1, false)] none none 0 8) := by
 show aV Tryz.prog 19 = _
 kernel_rfl
theorem ti21 : aT Tryz.prog 21 (.mk false 1 [.int .i32 0] [] none (some .i32) 0 4) := by
 show aV Tryz.prog 21 = _
 kernel_rfl
theorem ti22 : aT Tryz.prog 22 (.mk false 1 [.slice none 0 0] [] (some 3) none 3 24) := by
 show aV Tryz.prog 22 = _
 kernel_rfl
theorem ti23 : aT Tryz.prog 23 (.mk false 1 [.slice none 0 0] [] (some 115) none 3 24) := by
 show aV Tryz.prog 23 = _
 kernel_rfl
theorem ti24 : aT Tryz.prog 24 (.mk true 5 [.slice none 0 0, .slice none 0 0, .slice none 0 0, .slice none 0 0, .slice none 0 0] [(0, 1, false), (1, 1, false), (2, 1, false), (3, 1, false), (4, 1, false)] none none 0 120) := by
 show aV Tryz.prog 24 = _
 kernel_rfl
theorem ti25 : aT Tryz.prog 25 (.mk true 5 [.slice none 0 0, .slice none 0 0, .slice none 0 0, .slice none 0 0, .slice none 0 0] [(0, 1, false), (1, 1, false), (2, 1, false), (3, 1, false), (4, 1, false)] none none 0 120) := by
 show aV Tryz.prog 25 = _
 kernel_rfl
theorem ti26 : aT Tryz.prog 26 (.mk false 1 [.slice none 0 0] [] (some 119) none 3 24) := by
 show aV Tryz.prog 26 = _
 kernel_rfl
theorem ti27 : aT Tryz.prog 27 (.mk false 1 [.slice none 0 0] [] (some 121) none 3 24) := by
 show aV Tryz.prog 27 = _
 kernel_rfl
theorem ti28 : aT Tryz.prog 28 (.mk false 1 [.slice none 0 0] [] (some 123) none 3 24) := by
 show aV Tryz.prog 28 = _
 kernel_rfl
theorem ti29 : aT Tryz.prog 29 (.mk false 1 [.slice none 0 0] [] (some 125) none 3 24) := by
 show aV Tryz.prog 29 = _
 kernel_rfl
theorem ti30 : aT Tryz.prog 30 (.mk false 1 [.slice none 0 0] [] (some 129) none 3 24) := by
 show aV Tryz.prog 30 = _
 kernel_rfl
theorem ti31 : aT Tryz.prog 31 (.mk true 9 [.slice none 0 0, .slice none 0 0, .slice none 0 0, .slice none 0 0, .slice none 0 0, .slice none 0 0, .slice none 0 0, .slice none 0 0, .int .i64 0] [(0, 1, false), (1, 1, false), (2, 1, false), (3, 1, false), (4, 1, false), (5, 1, false), (6, 1, false), (7, 1, false), (8, 1, false)] none none 0 200) := by
 show aV Tryz.prog 31 = _
 kernel_rfl
theorem ti32 : aT Tryz.prog 32 (.mk true 9 [.slice none 0 0, .slice none 0 0, .slice none 0 0, .slice none 0 0, .slice none 0 0, .slice none 0 0, .slice none 0 0, .slice none 0 0, .int .i64 0] [(0, 1, false), (1, 1, false), (2, 1, false), (3, 1, false), (4, 1, false), (5, 1, false), (6, 1, false), (7, 1, false), (8, 1, false)] none none 0 200) := by
 show aV Tryz.prog 32 = _
 kernel_rfl
theorem ti36 : aT Tryz.prog 36 (.mk false 1 [.slice none 0 0] [] (some 105) none 3 24) := by
 show aV Tryz.prog 36 = _
 kernel_rfl
theorem ti37 : aT Tryz.prog 37 (.mk true 5 [.slice none 0 0, .slice none 0 0, .slice none 0 0, .slice none 0 0, .slice none 0 0] [(0, 1, false), (1, 1, false), (2, 1, false), (3, 1, false), (4, 1, false)] none none 0 120) := by
 show aV Tryz.prog 37 = _
 kernel_rfl
theorem ti38 : aT Tryz.prog 38 (.mk true 5 [.slice none 0 0, .slice none 0 0, .slice none 0 0, .slice none 0 0, .slice none 0 0] [(0, 1, false), (1, 1, false), (2, 1, false), (3, 1, false), (4, 1, false)] none none 0 120) := by
 show aV Tryz.prog 38 = _
 kernel_rfl
theorem ti40 : aT Tryz.prog 40 (.mk false 1 [.slice none 0 0] [] (some 85) none 3 24) := by
 show aV Tryz.prog 40 = _
 kernel_rfl
theorem ti41 : aT Tryz.prog 41 (.mk false 1 [.slice none 0 0] [] (some 98) none 3 24) := by
 show aV Tryz.prog 41 = _
 kernel_rfl
theorem ti42 : aT Tryz.prog 42 (.mk false 1 [.slice none 0 0] [] (some 88) none 3 24) := by
 show aV Tryz.prog 42 = _
 kernel_rfl
theorem ti43 : aT Tryz.prog 43 (.mk false 1 [.slice none 0 0] [] (some 91) none 3 24) := by
 show aV Tryz.prog 43 = _
 kernel_rfl
theorem ti44 : aT Tryz.prog 44 (.mk false 1 [.slice none 0 0] [] (some 95) none 3 24) := by
 show aV Tryz.prog 44 = _
 kernel_rfl
theorem ti45 : aT Tryz.prog 45 (.mk true 9 [.slice none 0 0, .slice none 0 0, .slice none 0 0, .slice none 0 0, .slice none 0 0, .slice none 0 0, .slice none 0 0, .slice none 0 0, .int .i64 0] [(0, 1, false), (1, 1, false), (2, 1, false), (3, 1, false), (4, 1, false), (5, 1, false), (6, 1, false), (7, 1, false), (8, 1, false)] none none 0 200) := by
 show aV Tryz.prog 45 = _
 kernel_rfl
theorem ti46 : aT Tryz.prog 46 (.mk true 9 [.slice none 0 0, .slice none 0 0, .slice none 0 0, .slice none 0 0, .slice none 0 0, .slice none 0 0, .slice none 0 0, .slice none 0 0, .int .i64 0] [(0, 1, false), (1, 1, false), (2, 1, false), (3, 1, false), (4, 1, false), (5, 1, false), (6, 1, false), (7, 1, false), (8, 1, false)] none none 0 200) := by
 show aV Tryz.prog 46 = _
 kernel_rfl
theorem ti51 : aT Tryz.prog 51 (.mk false 1 [.slice none 0 0] [] (some 5) none 3 24) := by
 show aV Tryz.prog 51 = _
 kernel_rfl
theorem ti63 : aT Tryz.prog 63 (.mk false 1 [.slice none 0 0] [] (some 9) none 3 24) := by
 show aV Tryz.prog 63 = _
 kernel_rfl
theorem ti83 : aT Tryz.prog 83 (.mk false 1 [.slice none 0 0] [] (some 161) none 3 24) := by
 show aV Tryz.prog 83 = _
 kernel_rfl
theorem ti84 : aT Tryz.prog 84 (.mk true 3 [.int .i64 0, .int .i64 0, .slice none 0 0] [(0, 1, false), (1, 1, false), (2, 1, false)] none none 0 40) := by
 show aV Tryz.prog 84 = _
 kernel_rfl
theorem ti85 : aT Tryz.prog 85 (.mk true 3 [.int .i64 0, .int .i64 0, .slice none 0 0] [(0, 1, false), (1, 1, false), (2, 1, false)] none none 0 40) := by
 show aV Tryz.prog 85 = _
 kernel_rfl
theorem ti87 : aT Tryz.prog 87 (.mk true 2 [.int .i64 0, .slice none 0 0] [(0, 1, false), (1, 1, false)] none none 0 32) := by
 show aV Tryz.prog 87 = _
 kernel_rfl
theorem ti88 : aT Tryz.prog 88 (.mk true 2 [.int .i64 0, .slice none 0 0] [(0, 1, false), (1, 1, false)] none none 0 32) := by
 show aV Tryz.prog 88 = _
 kernel_rfl
theorem ti90 : aT Tryz.prog 90 (.mk true 3 [.int .i64 0, .int .i64 0, .slice none 0 0] [(0, 1, false), (1, 1, false), (2, 1, false)] none none 0 40) := by
 show aV Tryz.prog 90 = _
 kernel_rfl
theorem ti91 : aT Tryz.prog 91 (.mk true 3 [.int .i64 0, .int .i64 0, .slice none 0 0] [(0, 1, false), (1, 1, false), (2, 1, false)] none none 0 40) := by
 show aV Tryz.prog 91 = _
 kernel_rfl
theorem ti93 : aT Tryz.prog 93 (.mk false 1 [.slice none 0 0] [] (some 164) none 3 24) := by
 show aV Tryz.prog 93 = _
 kernel_rfl
theorem ti94 : aT Tryz.prog 94 (.mk true 5 [.int .i64 0, .slice none 0 0, .slice none 0 0, .slice none 0 0, .bool false] [(0, 1, false), (1, 1, false), (2, 1, false), (3, 1, false), (4, 1, false)] none none 0 88) := by
 show aV Tryz.prog 94 = _
 kernel_rfl
theorem ti95 : aT Tryz.prog 95 (.mk true 5 [.int .i64 0, .slice none 0 0, .slice none 0 0, .slice none 0 0, .bool false] [(0, 1, false), (1, 1, false), (2, 1, false), (3, 1, false), (4, 1, false)] none none 0 88) := by
 show aV Tryz.prog 95 = _
 kernel_rfl
theorem ti97 : aT Tryz.prog 97 (.mk true 4 [.int .i64 0, .int .i64 0, .int .i64 0, .slice none 0 0] [(0, 1, false), (1, 1, false), (2, 1, false), (3, 1, false)] none none 0 48) := by
 show aV Tryz.prog 97 = _
 kernel_rfl
theorem ti98 : aT Tryz.prog 98 (.mk true 4 [.int .i64 0, .int .i64 0, .int .i64 0, .slice none 0 0] [(0, 1, false), (1, 1, false), (2, 1, false), (3, 1, false)] none none 0 48) := by
 show aV Tryz.prog 98 = _
 kernel_rfl
theorem ti101 : aT Tryz.prog 101 (.mk false 1 [.map none] [] none none 0 8) := by
 show aV Tryz.prog 101 = _
 kernel_rfl
theorem ti102 : aT Tryz.prog 102 (.mk false 1 [.map none] [] none none 0 8) := by
 show aV Tryz.prog 102 = _
 kernel_rfl
theorem ti105 : aT Tryz.prog 105 (.mk false 1 [.slice none 0 0] [] (some 108) none 3 24) := by
 show aV Tryz.prog 105 = _
 kernel_rfl
theorem ti106 : aT Tryz.prog 106 (.mk false 1 [.slice none 0 0] [] (some 110) none 3 24) := by
 show aV Tryz.prog 106 = _
 kernel_rfl
theorem ti107 : aT Tryz.prog 107 (.mk true 3 [.int .i64 0, .int .i64 0, .int .i64 0] [(0, 1, false), (1, 1, false), (2, 1, false)] none none 0 24) := by
 show aV Tryz.prog 107 = _
 kernel_rfl
theorem ti108 : aT Tryz.prog 108 (.mk true 3 [.int .i64 0, .int .i64 0, .int .i64 0] [(0, 1, false), (1, 1, false), (2, 1, false)] none none 0 24) := by
 show aV Tryz.prog 108 = _
 kernel_rfl
theorem ti109 : aT Tryz.prog 109 (.mk true 3 [.int .i64 0, .int .i64 0, .int .i64 0] [(0, 1, false), (1, 1, false), (2, 1, false)] none none 0 24) := by
 show aV Tryz.prog 109 = _
 kernel_rfl
theorem ti110 : aT Tryz.prog 110 (.mk true 3 [.int .i64 0, .int .i64 0, .int .i64 0] [(0, 1, false), (1, 1, false), (2, 1, false)] none none 0 24) := by
 show aV Tryz.prog 110 = _
 kernel_rfl
theorem ti115 : aT Tryz.prog 115 (.mk false 1 [.slice none 0 0] [] (some 174) none 3 24) := by
 show aV Tryz.prog 115 = _
 kernel_rfl
theorem ti117 : aT Tryz.prog 117 (.mk false 1 [.slice none 0 0] [] (some 193) none 3 24) := by
 show aV Tryz.prog 117 = _
 kernel_rfl
theorem ti118 : aT Tryz.prog 118 (.mk true 3 [.int .i64 0, .int .i64 0, .slice none 0 0] [(0, 1, false), (1, 1, false), (2, 1, false)] none none 0 40) := by
 show aV Tryz.prog 118 = _
 kernel_rfl
theorem ti119 : aT Tryz.prog 119 (.mk true 3 [.int .i64 0, .int .i64 0, .slice none 0 0] [(0, 1, false), (1, 1, false), (2, 1, false)] none none 0 40) := by
 show aV Tryz.prog 119 = _
 kernel_rfl
theorem ti121 : aT Tryz.prog 121 (.mk true 4 [.int .i64 0, .int .i64 0, .int .i64 0, .slice none 0 0] [(0, 1, false), (1, 1, false), (2, 1, false), (3, 1, false)] none none 0 48) := by
 show aV Tryz.prog 121 = _
 kernel_rfl
theorem ti123 : aT Tryz.prog 123 (.mk true 2 [.int .i64 0, .slice none 0 0] [(0, 1, false), (1, 1, false)] none none 0 32) := by
 show aV Tryz.prog 123 = _
 kernel_rfl
theorem ti125 : aT Tryz.prog 125 (.mk true 3 [.int .i64 0, .int .i64 0, .slice none 0 0] [(0, 1, false), (1, 1, false), (2, 1, false)] none none 0 40) := by
 show aV Tryz.prog 125 = _
 kernel_rfl
theorem ti127 : aT Tryz.prog 127 (.mk false 1 [.slice none 0 0] [] (some 195) none 3 24) := by
 show aV Tryz.prog 127 = _
 kernel_rfl
theorem ti128 : aT Tryz.prog 128 (.mk true 5 [.int .i64 0, .slice none 0 0, .slice none 0 0, .slice none 0 0, .bool false] [(0, 1, false), (1, 1, false), (2, 1, false), (3, 1, false), (4, 1, false)] none none 0 88) := by
 show aV Tryz.prog 128 = _
 kernel_rfl
theorem ti129 : aT Tryz.prog 129 (.mk true 5 [.int .i64 0, .slice none 0 0, .slice none 0 0, .slice none 0 0, .bool false] [(0, 1, false), (1, 1, false), (2, 1, false), (3, 1, false), (4, 1, false)] none none 0 88) := by
 show aV Tryz.prog 129 = _
 kernel_rfl
theorem ti136 : aT Tryz.prog 136 (.mk false 1 [.pointer none] [] none none 0 8) := by
 show aV Tryz.prog 136 = _
 kernel_rfl
theorem ti137 : aT Tryz.prog 137 (.mk true 2 [.pointer none, .slice none 0 0] [(0, 1, false), (1, 1, false)] none none 0 32) := by
 show aV Tryz.prog 137 = _
 kernel_rfl
theorem ti138 : aT Tryz.prog 138 (.mk true 2 [.pointer none, .slice none 0 0] [(0, 1, false), (1, 1, false)] none none 0 32) := by
 show aV Tryz.prog 138 = _
 kernel_rfl
theorem ti151 : aT Tryz.prog 151 (.mk false 1 [.pointer none] [] none none 0 8) := by
 show aV Tryz.prog 151 = _
 kernel_rfl
theorem ti160 : aT Tryz.prog 160 (.mk true 2 [.int .i64 0, .int .i64 0] [(0, 1, false), (1, 1, false)] none none 0 16) := by
 show aV Tryz.prog 160 = _
 kernel_rfl
theorem ti161 : aT Tryz.prog 161 (.mk true 2 [.int .i64 0, .int .i64 0] [(0, 1, false), (1, 1, false)] none none 0 16) := by
 show aV Tryz.prog 161 = _
 kernel_rfl
theorem ti163 : aT Tryz.prog 163 (.mk true 2 [.int .i64 0, .int .i64 0] [(0, 1, false), (1, 1, false)] none none 0 16) := by
 show aV Tryz.prog 163 = _
 kernel_rfl
theorem ti164 : aT Tryz.prog 164 (.mk true 2 [.int .i64 0, .int .i64 0] [(0, 1, false), (1, 1, false)] none none 0 16) := by
 show aV Tryz.prog 164 = _
 kernel_rfl
theorem ti174 : aT Tryz.prog 174 (.mk true 3 [.int .i64 0, .int .i64 0, .int .i64 0] [(0, 1, false), (1, 1, false), (2, 1, false)] none none 0 24) := by
 show aV Tryz.prog 174 = _
 kernel_rfl
theorem ti178 : aT Tryz.prog 178 (.mk false 1 [.pointer none] [] none none 0 8) := by
 show aV Tryz.prog 178 = _
 kernel_rfl
theorem ti182 : aT Tryz.prog 182 (.mk true 2 [.slice none 0 0, .int .i64 0] [(0, 1, false), (1, 1, false)] none none 0 32) := by
 show aV Tryz.prog 182 = _
 kernel_rfl
theorem ti183 : aT Tryz.prog 183 (.mk true 2 [.slice none 0 0, .int .i64 0] [(0, 1, false), (1, 1, false)] none none 0 32) := by
 show aV Tryz.prog 183 = _
 kernel_rfl
theorem ti189 : aT Tryz.prog 189 (.mk false 1 [.map none] [] none none 0 8) := by
 show aV Tryz.prog 189 = _
 kernel_rfl
theorem ti193 : aT Tryz.prog 193 (.mk true 2 [.int .i64 0, .int .i64 0] [(0, 1, false), (1, 1, false)] none none 0 16) := by
 show aV Tryz.prog 193 = _
 kernel_rfl
theorem ti195 : aT Tryz.prog 195 (.mk true 2 [.int .i64 0, .int .i64 0] [(0, 1, false), (1, 1, false)] none none 0 16) := by
 show aV Tryz.prog 195 = _
 kernel_rfl
theorem ti197 : aT Tryz.prog 197 (.mk false 1 [.int .u64 0] [] none (some .u64) 0 8) := by
 show aV Tryz.prog 197 = _
 kernel_rfl
theorem ti202 : aT Tryz.prog 202 (.mk false 1 [.pointer none] [] none none 0 8) := by
 show aV Tryz.prog 202 = _
 kernel_rfl
theorem ti225 : aT Tryz.prog 225 (.mk false 1 [.int .u32 0] [] none (some .u32) 0 4) := by
 show aV Tryz.prog 225 = _
 kernel_rfl
theorem ti227 : aT Tryz.prog 227 (.mk false 1 [.int .u64 0] [] none (some .u64) 0 8) := by
 show aV Tryz.prog 227 = _
 kernel_rfl
theorem ti275 : aT Tryz.prog 275 (.mk true 4 [.pointer none, .pointer none, .pointer none, .string ⟨#[]⟩] [(0, 1, false), (1, 1, false), (2, 1, false), (3, 1, false)] none none 0 40) := by
 show aV Tryz.prog 275 = _
 kernel_rfl
theorem ti276 : aT Tryz.prog 276 (.mk true 4 [.pointer none, .pointer none, .pointer none, .string ⟨#[]⟩] [(0, 1, false), (1, 1, false), (2, 1, false), (3, 1, false)] none none 0 40) := by
 show aV Tryz.prog 276 = _
 kernel_rfl
theorem ti281 : aT Tryz.prog 281 (.mk false 1 [.int .u8 0] [] none (some .u8) 0 1) := by
 show aV Tryz.prog 281 = _
 kernel_rfl
theorem ti282 : aT Tryz.prog 282 (.mk false 1 [.int .u8 0] [] none (some .u8) 0 1) := by
 show aV Tryz.prog 282 = _
 kernel_rfl
theorem ti284 : aT Tryz.prog 284 (.mk false 1 [.int .i32 0] [] none (some .i32) 0 4) := by
 show aV Tryz.prog 284 = _
 kernel_rfl
theorem ti285 : aT Tryz.prog 285 (.mk false 1 [.int .i32 0] [] none (some .i32) 0 4) := by
 show aV Tryz.prog 285 = _
 kernel_rfl
theorem aA (t : TypeId) : aT Tryz.prog t (aZ tab t) := jB0 (P := Tryz.prog) (tab := tab) (TIall.of_R (show bE0 Tryz.prog tab from ⟨ti2, ti3, ti4, ti5, ti6, ti7, ti8, ti9, ti10, ti11, ti12, ti13, ti14, ti15, ti16, ti17, ti18, ti19, ti21, ti22, ti23, ti24, ti25, ti26, ti27, ti28, ti29, ti30, ti31, ti32, ti36, ti37, ti38, ti40, ti41, ti42, ti43, ti44, ti45, ti46, ti51, ti63, ti83, ti84, ti85, ti87, ti88, ti90, ti91, ti93, ti94, ti95, ti97, ti98, ti101, ti102, ti105, ti106, ti107, ti108, ti109, ti110, ti115, ti117, ti118, ti119, ti121, ti123, ti125, ti127, ti128, ti129, ti136, ti137, ti138, ti151, ti160, ti161, ti163, ti164, ti174, ti178, ti182, ti183, ti189, ti193, ti195, ti197, ti202, ti225, ti227, ti275, ti276, ti281, ti282, ti284, ti285, trivial⟩)) t
theorem cl7 : aD Tryz.prog 7 = true := by kernel_rfl
theorem cl10 : aD Tryz.prog 10 = true := by kernel_rfl
theorem cl13 : aD Tryz.prog 13 = true := by kernel_rfl
theorem cl14 : aD Tryz.prog 14 = true := by kernel_rfl
theorem jF0 : aD Tryz.prog 15 = true := by kernel_rfl
theorem aA0 : aD Tryz.prog 23 = true := by kernel_rfl
theorem jG0 : aD Tryz.prog 31 = true := by kernel_rfl
theorem cl32 : aD Tryz.prog 32 = true := by kernel_rfl
theorem cl40 : aD Tryz.prog 40 = true := by kernel_rfl
theorem cl41 : aD Tryz.prog 41 = true := by kernel_rfl
theorem cl42 : aD Tryz.prog 42 = true := by kernel_rfl
theorem cl43 : aD Tryz.prog 43 = true := by kernel_rfl
theorem cl44 : aD Tryz.prog 44 = true := by kernel_rfl
theorem cl45 : aD Tryz.prog 45 = true := by kernel_rfl
theorem cl46 : aD Tryz.prog 46 = true := by kernel_rfl
theorem aB0 : aD Tryz.prog 47 = true := by kernel_rfl
theorem cl48 : aD Tryz.prog 48 = true := by kernel_rfl
theorem jH0 : aD Tryz.prog 49 = true := by kernel_rfl
theorem cl50 : aD Tryz.prog 50 = true := by kernel_rfl
theorem uE : aD Tryz.prog 51 = true := by kernel_rfl
theorem cl52 : aD Tryz.prog 52 = true := by kernel_rfl
theorem cl53 : aD Tryz.prog 53 = true := by kernel_rfl
theorem cl54 : aD Tryz.prog 54 = true := by kernel_rfl
theorem cl77 : aD Tryz.prog 77 = true := by kernel_rfl
theorem cl78 : aD Tryz.prog 78 = true := by kernel_rfl
theorem nL : aD Tryz.prog 79 = true := by kernel_rfl
theorem lT0 : aD Tryz.prog 80 = true := by kernel_rfl
theorem rC : aD Tryz.prog 81 = true := by kernel_rfl
theorem lU0 : aD Tryz.prog 82 = true := by kernel_rfl
theorem jI0 : aD Tryz.prog 83 = true := by kernel_rfl
theorem cl84 : aD Tryz.prog 84 = true := by kernel_rfl
theorem gI0 : aD Tryz.prog 85 = true := by kernel_rfl
theorem cl86 : aD Tryz.prog 86 = true := by kernel_rfl
theorem lV0 : aD Tryz.prog 87 = true := by kernel_rfl
theorem cl88 : aD Tryz.prog 88 = true := by kernel_rfl
theorem eG0 : aD Tryz.prog 89 = true := by kernel_rfl
theorem jJ0 : aD Tryz.prog 90 = true := by kernel_rfl
theorem bO0 : aD Tryz.prog 91 = true := by kernel_rfl
theorem lW0 : aD Tryz.prog 92 = true := by kernel_rfl
theorem jK0 : aD Tryz.prog 93 = true := by kernel_rfl
theorem lX0 : aD Tryz.prog 94 = true := by kernel_rfl
theorem cl95 : aD Tryz.prog 95 = true := by kernel_rfl
theorem jL0 : aD Tryz.prog 96 = true := by kernel_rfl
theorem jM0 : aD Tryz.prog 97 = true := by kernel_rfl
theorem cl98 : aD Tryz.prog 98 = true := by kernel_rfl
theorem lY0 : aD Tryz.prog 99 = true := by kernel_rfl
theorem cl111 : aD Tryz.prog 111 = true := by kernel_rfl
theorem cl112 : aD Tryz.prog 112 = true := by kernel_rfl
theorem kQ0 : aD Tryz.prog 113 = true := by kernel_rfl
theorem cl114 : aD Tryz.prog 114 = true := by kernel_rfl
theorem cl115 : aD Tryz.prog 115 = true := by kernel_rfl
theorem cl116 : aD Tryz.prog 116 = true := by kernel_rfl
theorem tI : aD Tryz.prog 117 = true := by kernel_rfl
theorem cl118 : aD Tryz.prog 118 = true := by kernel_rfl
theorem gJ0 : aD Tryz.prog 119 = true := by kernel_rfl
theorem cl120 : aD Tryz.prog 120 = true := by kernel_rfl
theorem cl121 : aD Tryz.prog 121 = true := by kernel_rfl
theorem oS : aD Tryz.prog 122 = true := by kernel_rfl
theorem dE0 : aD Tryz.prog 123 = true := by kernel_rfl
theorem lO : aD Tryz.prog 124 = true := by kernel_rfl
theorem kR0 : aD Tryz.prog 125 = true := by kernel_rfl
theorem cl136 : aD Tryz.prog 136 = true := by kernel_rfl
theorem cl137 : aD Tryz.prog 137 = true := by kernel_rfl
theorem cl138 : aD Tryz.prog 138 = true := by kernel_rfl
theorem cl139 : aD Tryz.prog 139 = true := by kernel_rfl
theorem cl140 : aD Tryz.prog 140 = true := by kernel_rfl
theorem cl141 : aD Tryz.prog 141 = true := by kernel_rfl
theorem dF0 : aD Tryz.prog 142 = true := by kernel_rfl
theorem gK0 : aD Tryz.prog 143 = true := by kernel_rfl
theorem dG0 : aD Tryz.prog 144 = true := by kernel_rfl
theorem kS0 : aD Tryz.prog 145 = true := by kernel_rfl
theorem kT0 : aD Tryz.prog 146 = true := by kernel_rfl
theorem cl147 : aD Tryz.prog 147 = true := by kernel_rfl
theorem dH0 : aD Tryz.prog 153 = true := by kernel_rfl
theorem dI0 : aD Tryz.prog 154 = true := by kernel_rfl
theorem cl155 : aD Tryz.prog 155 = true := by kernel_rfl
theorem cl156 : aD Tryz.prog 156 = true := by kernel_rfl
theorem kU0 : aD Tryz.prog 157 = true := by kernel_rfl
theorem cl158 : aD Tryz.prog 158 = true := by kernel_rfl
theorem cl159 : aD Tryz.prog 159 = true := by kernel_rfl
theorem cl160 : aD Tryz.prog 160 = true := by kernel_rfl
theorem cl161 : aD Tryz.prog 161 = true := by kernel_rfl
theorem cl162 : aD Tryz.prog 162 = true := by kernel_rfl
theorem kV0 : aD Tryz.prog 165 = true := by kernel_rfl
theorem kW0 : aD Tryz.prog 166 = true := by kernel_rfl
theorem dJ0 : aD Tryz.prog 167 = true := by kernel_rfl
theorem gL0 : aD Tryz.prog 168 = true := by kernel_rfl
theorem cl169 : aD Tryz.prog 169 = true := by kernel_rfl
theorem kX0 : aD Tryz.prog 170 = true := by kernel_rfl
theorem dK0 : aD Tryz.prog 171 = true := by kernel_rfl
theorem cl172 : aD Tryz.prog 172 = true := by kernel_rfl
theorem kY0 : aD Tryz.prog 173 = true := by kernel_rfl
theorem cl174 : aD Tryz.prog 174 = true := by kernel_rfl
theorem kZ0 : aD Tryz.prog 175 = true := by kernel_rfl
theorem lQ : aD Tryz.prog 176 = true := by kernel_rfl
theorem cl177 : aD Tryz.prog 177 = true := by kernel_rfl
theorem cl178 : aD Tryz.prog 178 = true := by kernel_rfl
theorem tJ : aD Tryz.prog 179 = true := by kernel_rfl
theorem cl180 : aD Tryz.prog 180 = true := by kernel_rfl
theorem cl181 : aD Tryz.prog 181 = true := by kernel_rfl
theorem cl182 : aD Tryz.prog 182 = true := by kernel_rfl
theorem cl183 : aD Tryz.prog 183 = true := by kernel_rfl
theorem lA0 : aD Tryz.prog 184 = true := by kernel_rfl
end Go.Proofs.YtchkcjeeknfchaaGreatDoor
namespace Go.Sx
open Go Go.RowKit
def prs (es : Array MapEntry) : List (Value × Value) := es.toList.map fun e => (e.key, e.val)
def kv {β : Type} (venc : β → Value) (ps : List (Int × β)) : List (Value × Value) := ps.map fun p => (.int .i64 p.1, venc p.2)
def vC {β : Type} (r : Nat) (venc : β → Value) (ps : List (Int × β)) (w : World) : Prop := ∃ es clock, w.heap[r]? = some (.map es clock) ∧ prs es = kv venc ps
theorem gM0 {β : Type} (r : Nat) (venc : β → Value) (ps : List (Int × β)) (w w' : World) (hb : ∀ b, b = r → w'.heap[b]? = w.heap[b]?) : vC r venc ps w → vC r venc ps w' :=
 fun ⟨es, clock, h1, h2⟩ => ⟨es, clock, by rw [hb r rfl]; exact h1, h2⟩
abbrev iJ {β : Type} (r : Nat) (venc : β → Value) (ps : List (Int × β)) : Fct := .other false true (fun b => b = r) (vC r venc ps) (gM0 r venc ps)
def jM {β : Type} : List (Int × β) → Int → Option (Nat × β)
 | [], _ => none
 | (k, v) :: r, x => if k = x then some (0, v) else (jM r x).map fun p => (p.1 + 1, p.2)
def bS {β : Type} : List (Int × β) → Int → Option β
 | [], _ => none
 | (k, v) :: r, x => if k = x then some v else bS r x
def eZ {β : Type} : List (Int × β) → Int → β → List (Int × β)
 | [], x, v => [(x, v)]
 | (k, u) :: r, x, v => if k = x then (k, v) :: r else (k, u) :: eZ r x v
theorem vD {β : Type} (ps : List (Int × β)) (x : Int) : bS ps x = (jM ps x).map (·.2) := by
 induction ps with
 | nil => rfl
 | cons p r ih =>
   obtain ⟨k, v⟩ := p
   simp only [bS, jM]
   split
   · rfl
   · rw [ih]; cases jM r x <;> rfl
theorem sP {β : Type} : ∀ {ps : List (Int × β)} {x : Int} {j : Nat} {u : β} (v : β), jM ps x = some (j, u) → eZ ps x v = ps.set j (x, v) ∧ ps[j]? = some (x, u)
 | [], x, j, u, v, h => by simp [jM] at h
 | (k, q) :: r, x, j, u, v, h => by
   simp only [jM] at h
   split at h
   · rename_i hk
     simp at h
     obtain ⟨rfl, rfl⟩ := h
     subst hk
     simp [eZ]
   · rename_i hk
     cases hi : jM r x with
     | none => rw [hi] at h; simp at h
     | some p =>
       rw [hi] at h
       simp at h
       obtain ⟨rfl, rfl⟩ := h
       obtain ⟨h1, h2⟩ := sP v hi
       simp [eZ, hk, h1, h2]
theorem pL {β : Type} : ∀ {ps : List (Int × β)} {x : Int} (v : β), jM ps x = none → eZ ps x v = ps ++ [(x, v)]
 | [], x, v, h => rfl
 | (k, q) :: r, x, v, h => by
   simp only [jM] at h
   split at h
   · cases h
   · rename_i hk
     cases hi : jM r x with
     | none => simp [eZ, hk, pL v hi]
     | some p => rw [hi] at h; simp at h
theorem tK {β : Type} (venc : β → Value) (q : IntKind) (x : Int) : ∀ (es : List MapEntry) (ps : List (Int × β)) (i : Nat), es.map (fun e => (e.key, e.val)) = kv venc ps →
   Instr.findNow (.int q) (.int .i64 x) es i = some ((jM ps x).map fun p => (i + p.1, venc p.2))
 | [], ps, i, h => by
   cases ps with
   | nil => rfl
   | cons p r => simp [kv] at h
 | e :: es, ps, i, h => by
   cases ps with
   | nil => simp [kv] at h
   | cons p r =>
     obtain ⟨k, v⟩ := p
     simp only [kv, List.map_cons, List.cons.injEq, Prod.mk.injEq] at h
     obtain ⟨⟨h1, h2⟩, h3⟩ := h
     have ih := tK venc q x es r (i + 1) h3
     simp only [Instr.findNow, h1, Instr.sameNow, if_true, jM]
     by_cases hk : x = k
     · subst hk
       simp [h2]
     · have hk' : ¬ k = x := fun e => hk e.symm
       have hb : (x == k) = false := by simpa using hk
       simp only [hb, ih, hk', if_false]
       cases jM r x with
       | none => rfl
       | some p => simp [Nat.add_assoc, Nat.add_comm 1 p.1]
theorem cT {P : Program} {w : World} {r : Nat} {es : Array MapEntry} {clock : Nat} (h : w.heap[r]? = some (.map es clock)) : (getObj r).run P w = .ok (.map es clock) w := by
 simp [getObj, Sem.run, h]
theorem eL {P : Program} {w : World} {r : Nat} {es : Array MapEntry} {clock : Nat} (h : w.heap[r]? = some (.map es clock)) (o : Obj) : (setObj r o).run P w = .ok () { w with heap := w.heap.setIfInBounds r o } := by
 simp [setObj, Sem.run, h]
theorem cV {P : Program} {t : TypeId} {q : IntKind} (h : P.underlying t = some (.int q)) (b : Bool) (x : Int) (w : World) : (Instr.checkKey b 10000 t (.int .i64 x)).run P w = .ok () w := by
 show (Instr.checkKey b (9999 + 1) t (.int .i64 x)).run P w = _
 unfold Instr.checkKey
 simp [underlying, h]
theorem dH {β : Type} {P : Program} {t : TypeId} {q : IntKind} (h : P.underlying t = some (.int q)) (venc : β → Value) (x : Int) (es : Array MapEntry) (ps : List (Int × β)) (he : prs es = kv venc ps) (w : World) :
   (Instr.findKey t (.int .i64 x) es.toList).run P w = .ok ((jM ps x).map fun p => (p.1, venc p.2)) w := by
 have := tK venc q x es.toList ps 0 he
 simp only [Nat.zero_add] at this
 simp [Instr.findKey, underlying, h, this]
section
variable {E : Env} {ti : Nat → TI} {A : Nat → Nat} {T : List (Nat × SV)} {n c : Nat} {B : List (Nat × TypeId × Nat)} {M : List ((Nat × Nat) × SV)} {F : List Fct} {o : Oper} {next : St → Prop}
theorem nM {β : Type} (venc : β → Value) {t : TypeId} {d : Nat} (hop : o.op = .makeMap t none) (hd : Dst E o d)
   (hnext : ∀ r : Nat, next (.mk ((d, .v (.map (some r))) :: T) n (c + 1) B M (iJ r venc ([] : List (Int × β)) :: F))) : OpW (cQ E o next T n c B M F) := by
 refine ⟨fun A a w hW hT => ?_⟩
 have hr : (execOp a.eval o).run E.P w = .ok (.value (.map (some w.heap.size))) (w.alloc (.map #[] 0)) := by
   simp [execOp, hop, Instr.makeMap]
 refine aQ hr ?_
 rw [hd.1]
 refine ⟨_, ⟨_, hW.learn (Ext.alloc w _) (L := [iJ w.heap.size venc ([] : List (Int × β))]) ⟨fun f hf => ?_, List.pairwise_singleton _ _⟩, (hT.step _).put (v := .v (.map (some w.heap.size))) hd.lt trivial⟩, hnext _⟩
 simp only [List.mem_singleton] at hf
 subst hf
 refine ⟨⟨#[], 0, heap_alloc_new w _, rfl⟩, rfl, ?_⟩
 rintro b rfl
 simp
theorem tL {β : Type} {venc : β → Value} (k1 : Nat) {t kt et : TypeId} {x y : Operand} {r : Nat} {q : Int} {ps : List (Int × β)} {d : Nat} {z : Value} {qk : IntKind}
   (hop : o.op = .lookup t x y false) (hx : aY T x = some (.v (.map (some r)))) (hy : aY T y = some (.v (.int .i64 q))) (hF : F[k1]? = some (iJ r venc ps)) (hd : Dst E o d)
   (ht : E.P.underlying t = some (.map kt et)) (hkt : E.P.underlying kt = some (.int qk)) (hz : (E.P.info? et).bind (·.zero) = some z) (rv : Value) (hrv : (match bS ps q with | some v => venc v | none => z) = rv)
   (hnext : next (.mk ((d, .v rv) :: T) n c B M F)) : OpW (cQ E o next T n c B M F) := by
 subst hrv
 refine ⟨fun A a w hW hT => ?_⟩
 obtain ⟨es, clock, h1, h2⟩ := (hW.nth k1 hF).1
 have hr : (execOp a.eval o).run E.P w = .ok (.value (match bS ps q with | some v => venc v | none => z)) w := by
   have hx' := (aE hT hx).1
   have hy' := (aE hT hy).1
   simp only [SV.den] at hx' hy'
   rw [vD]
   simp only [execOp, hop, hx', hy', Instr.lookup, Sem.run_bind, underlying, run_program, Result.andThen_ok, ht, Sem.run_pure, cT h1, cV hkt, dH hkt venc q es ps h2]
   cases jM ps q with
   | none =>
     cases hi : E.P.info? et with
     | none => rw [hi] at hz; simp at hz
     | some i =>
       rw [hi] at hz
       simp at hz
       simp [zeroValue, typeInfo, hi, hz]
   | some p => simp
 refine aQ hr ?_
 rw [hd.1]
 exact ⟨_, ⟨_, hW, hT.put (v := .v (match bS ps q with | some v => venc v | none => z)) hd.lt trivial⟩, hnext⟩
theorem WD.turnMap {w : World} (h : WD E A n B M F w) {β : Type} {venc : β → Value} {k r : Nat} {ps qs : List (Int × β)} (hk : F[k]? = some (iJ r venc ps)) (o : Obj)
   (hnew : vC r venc qs { w with heap := w.heap.setIfInBounds r o }) : WD E A n B M (iJ r venc qs :: F.eraseIdx k) { w with heap := w.heap.setIfInBounds r o } := by
 have hfk := h.fct _ (List.mem_of_getElem? hk)
 have hsub := h.sub (iO F k)
 have hdj := eB h.dj hk
 have hX : ExtX (fun b => b = r) w { w with heap := w.heap.setIfInBounds r o } := by
   refine ⟨rfl, rfl, rfl, by simp, fun b _ hb => ?_⟩
   have hb' : ¬ r = b := fun e => hb e.symm
   show (w.heap.setIfInBounds r o)[b]? = w.heap[b]?
   rw [Array.getElem?_setIfInBounds, if_neg hb']
 have hW' : WD E A n B M (F.eraseIdx k) { w with heap := w.heap.setIfInBounds r o } := by
   refine hsub.grow hX (fun k' ty sz' hk' e => (hfk.2.1 r rfl).2 k' ty sz' hk' e) (fun f hf b hb e => hdj f hf (.inl rfl) r rfl (e ▸ hb)) (fun b hb e => ?_)
   exact (hfk.2.2 rfl b e).resolve_left (by omega)
 refine ⟨hW'.key, hW'.inj, hW'.mem, hW'.a0, hW'.n0, hW'.ext, ?_, ?_⟩
 · intro f hf
   rcases List.mem_cons.1 hf with rfl | hf
   · exact ⟨hnew, fun b hb => ⟨by simpa using (hfk.2.1 b hb).1, (hfk.2.1 b hb).2⟩, hfk.2.2⟩
   · exact hW'.fct f hf
 · rw [List.pairwise_cons]
   exact ⟨fun g hg ho b hb hb' => hdj g hg (.inl rfl) b hb hb', hW'.dj⟩
theorem aC0 {β : Type} {venc : β → Value} (k1 : Nat) (v : β) {t kt et : TypeId} {x y z : Operand} {r : Nat} {q : Int} {ps : List (Int × β)} {qk : IntKind} {s : SV}
   (hop : o.op = .mapUpdate t x y z) (hx : aY T x = some (.v (.map (some r)))) (hy : aY T y = some (.v (.int .i64 q))) (hz : aY T z = some s) (hs : ∀ A, s.den A = venc v) (hF : F[k1]? = some (iJ r venc ps)) (hd : o.dst = none)
   (ht : E.P.underlying t = some (.map kt et)) (hkt : E.P.underlying kt = some (.int qk)) (qs : List (Int × β)) (hqs : eZ ps q v = qs)
   (hnext : next (.mk T n (c + 1) B M (iJ r venc qs :: F.eraseIdx k1))) : OpW (cQ E o next T n c B M F) := by
 subst hqs
 refine ⟨fun A a w hW hT => ?_⟩
 obtain ⟨es, clock, h1, h2⟩ := (hW.nth k1 hF).1
 have hx' := (aE hT hx).1
 have hy' := (aE hT hy).1
 have hz' := (aE hT hz).1.trans (hs A)
 simp only [SV.den] at hx' hy'
 have hlt : r < w.heap.size := (Array.getElem?_eq_some_iff.1 h1).1
 have key : ∃ ob, (execOp a.eval o).run E.P w = .ok .skip { w with heap := w.heap.setIfInBounds r ob } ∧ vC r venc (eZ ps q v) { w with heap := w.heap.setIfInBounds r ob } := by
   cases hi : jM ps q with
   | none =>
     refine ⟨.map (es.push { key := .int .i64 q, val := venc v, born := clock }) (clock + 1), ?_, ?_⟩
     · simp only [execOp, hop, hx', hy', hz', Instr.mapUpdate, Sem.run_bind, underlying, run_program, Result.andThen_ok, ht, Sem.run_pure, cT h1, cV hkt, dH hkt venc q es ps h2, hi, Option.map_none, eL h1]
     · refine ⟨es.push { key := .int .i64 q, val := venc v, born := clock }, clock + 1, by simp [hlt], ?_⟩
       rw [pL v hi]
       simp only [prs, Array.toList_push, List.map_append, kv] at h2 ⊢
       rw [h2]; rfl
   | some p =>
     obtain ⟨j, u⟩ := p
     obtain ⟨g1, g2⟩ := sP v hi
     have hkey : (es[j]?).map (·.key) = some (.int .i64 q) := by
       have := congrArg (fun l => l[j]?) h2
       simp only [prs, kv, List.getElem?_map, g2, Option.map_some, Array.getElem?_toList] at this
       cases he : es[j]? with
       | none => rw [he] at this; simp at this
       | some e => rw [he] at this; simp at this; simp [this.1]
     refine ⟨.map (es.modify j fun e => { e with key := .int .i64 q, val := venc v }) clock, ?_, ?_⟩
     · have hks : (Instr.keyThatStays (.int .i64 q) (.int .i64 q)).run E.P w = .ok (.int .i64 q) w := by
         have hsb : Instr.sameBits 10000 (.int .i64 q) (.int .i64 q) = true := by
           show Instr.sameBits (9999 + 1) (.int .i64 q) (.int .i64 q) = true
           simp [Instr.sameBits]
         simp [Instr.keyThatStays, hsb]
       simp only [execOp, hop, hx', hy', hz', Instr.mapUpdate, Sem.run_bind, underlying, run_program, Result.andThen_ok, ht, Sem.run_pure, cT h1, cV hkt, dH hkt venc q es ps h2, hi, Option.map_some, hkey, Option.getD_some, hks, eL h1]
     · refine ⟨es.modify j fun e => { e with key := .int .i64 q, val := venc v }, clock, by simp [hlt], ?_⟩
       rw [g1]
       simp only [prs, kv, Array.toList_modify, List.map_set] at h2 ⊢
       rw [← h2]
       apply List.ext_getElem?
       intro k
       simp only [List.getElem?_map, List.getElem?_modify, List.getElem?_set]
       by_cases e : j = k
       · subst e
         simp only [if_true]
         cases he : es.toList[j]? with
         | none =>
           have : es[j]? = none := by simpa using he
           rw [this] at hkey; simp at hkey
         | some x =>
           have hl : j < es.size := by simpa using (List.getElem?_eq_some_iff.1 he).1
           simp [hl]
       · simp [e]
 obtain ⟨ob, h3, h4⟩ := key
 refine gM h3 ?_
 rw [hd]
 exact ⟨_, ⟨_, hW.turnMap hF ob h4, hT.step _⟩, hnext⟩
end
end Go.Sx
