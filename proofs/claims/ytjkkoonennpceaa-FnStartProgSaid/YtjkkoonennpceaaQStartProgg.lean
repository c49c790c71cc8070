/- FnStartProg: texts that its proof stands on, part 7. -/
import Derived.Test.YtjkkoonennpceaaQStartProgf
namespace Go.Proofs.Ytjkkoonennpceaa

open Go Go.Sx Go.RowKit

def progZ : Prog := ⟨[], [], [], [], []⟩

def progHZ : ProgH := ⟨[], [], [], [], [], ⟨none, 0⟩, ⟨none, 0⟩, ⟨none, 0⟩, ⟨none, 0⟩, ⟨none, 0⟩⟩

/-- The lines that are read. -/
def linesL (ls : List Str) : List Str := (ls.take (ls.length - 1)).take 9

theorem foldl_take {α β : Type} (f : β → α → β) (z : β) (l : List α) {k : Nat} (h : k < l.length) : (l.take (k + 1)).foldl f z = f ((l.take k).foldl f z) l[k] := by
  rw [List.take_succ_eq_append_getElem h, List.foldl_append]; rfl

set_option maxHeartbeats 32000000 in
set_option maxRecDepth 100000 in
theorem parseProg_c (t : Str) (w : World) (hb : t.length ≤ 1000) (ok : ProgOk (parseM t)) (hf : fmtProgM (parseM t) = t) :
    Calls Try.prog 59 #[.string (bs t)] w (Ret w fun v L => ∃ p : ProgH, v = .tuple #[progV p, .bool true] ∧ p.pure = parseM t ∧ L = [fO (progO p)]) := by
  have hcl := cutM_len 10 t
  have hpt : ∀ x ∈ cutM 10 t, x.length ≤ 1000 := fun x hx => Nat.le_trans (cutM_part hx) hb
  have hM : parseM t = (linesL (cutM 10 t)).foldl stepL progZ := rfl
  generalize parseM t = M at ok hf hM ⊢
  refine calls1 Try.func59 rfl tabOk w _ rfl _ rfl [] trivial trivial _ (by decide) ?_
  refine stop_call _ cl68 rfl rfl rfl rfl ⟨rfl, rfl⟩ (fun A w hW => (cut_c t 10 w (by omega))) ?_
  rintro v L ⟨y, rfl, rfl⟩
  generalize cutM 10 t = ls at hcl hpt hM ⊢
  have hLl : (linesL ls).length ≤ 9 ∧ (linesL ls).length + 1 ≤ ls.length ∧ ((linesL ls).length = 9 ∨ (linesL ls).length + 1 = ls.length) := by
    simp only [linesL, List.length_take]; omega
  have hLi : ∀ (i : Nat) (h : i < (linesL ls).length) (h2 : i < ls.length), (linesL ls)[i] = ls[i] := fun i h h2 => by simp [linesL]
  generalize linesL ls = Ls at hM hLl hLi
  refine LoopW.mk ⟨{ q : Nat × ProgH // q.1 ≤ Ls.length ∧ q.2.pure = (Ls.take q.1).foldl stepL progZ ∧ q.2.threads.length ≤ q.1 },
    fun q => .mk [(0, .v (.string (bs t))), (2, .p 0 0), (4, .v (y.val ls.length)), (5, .p 1 0), (6, .v (.int .i64 (q.1.1 : Int)))] 2 0 [(0, 26, 5), (1, 26, 5)] [((1, 0), .v (q.1.2.h0.val q.1.2.sems.length)), ((1, 1), .v (q.1.2.h1.val q.1.2.groups.length)), ((1, 2), .v (q.1.2.h2.val q.1.2.barriers.length)), ((1, 3), .v (q.1.2.h3.val q.1.2.rooms.length)), ((1, 4), .v (q.1.2.h4.val q.1.2.threads.length))] [own q.1.2.h0 3 cInt 1 q.1.2.sems, own q.1.2.h1 3 cInt 1 q.1.2.groups, own q.1.2.h2 3 cInt 1 q.1.2.barriers, own q.1.2.h3 3 cInt 1 q.1.2.rooms, own q.1.2.h4 39 cOpSH 1 q.1.2.threads, fO (q.1.2.threads.flatMap opSO), own y 9 cTxt 1 ls],
    fun q => Ls.length - q.1.1, ⟨(0, progHZ), Nat.zero_le _, rfl, Nat.le_refl _⟩, ?_, ?_⟩
  · refine weak_shift (.joinO [] (Gs := []) trivial rfl (.refl _)) ?_
    refine weak_mk [95, 96, 97, 98, 99, 0, 1] ?_ ?_ ?_ ?_ ?_ rfl rfl
    · repeat (first | exact trivial | refine ⟨⟨_, rfl, (by first | exact .of rfl | exact .lit rfl | exact .of (by first | (rfl)) | exact .lit (by first | (rfl))), (by first | exact trivial | exact Nat.le_of_ble_eq_true rfl | exact small1 rfl)⟩, ?_⟩)
    · repeat (first | exact trivial | refine ⟨⟨(by first | exact .head _ | exact .tail _ (.head _) | exact .tail _ (.tail _ (.head _)) | exact .tail _ (.tail _ (.tail _ (.head _))) | exact .tail _ (.tail _ (.tail _ (.tail _ (.head _)))) | exact .tail _ (.tail _ (.tail _ (.tail _ (.tail _ (.head _))))) | exact .tail _ (.tail _ (.tail _ (.tail _ (.tail _ (.tail _ (.head _)))))) | exact .tail _ (.tail _ (.tail _ (.tail _ (.tail _ (.tail _ (.tail _ (.head _))))))) | exact .tail _ (.tail _ (.tail _ (.tail _ (.tail _ (.tail _ (.tail _ (.tail _ (.head _)))))))) | exact .tail _ (.tail _ (.tail _ (.tail _ (.tail _ (.tail _ (.tail _ (.tail _ (.tail _ (.head _)))))))))), Nat.le_of_ble_eq_true rfl⟩, ?_⟩)
    · repeat (first | exact trivial | refine ⟨⟨_, rfl, (by first | exact .of rfl | exact .lit rfl | exact .of (by first | (rfl)) | exact .lit (by first | (rfl))), (by first | exact trivial | exact Nat.le_of_ble_eq_true rfl | exact small1 rfl)⟩, ?_⟩)
    · repeat (first | exact trivial | refine ⟨⟨_, rfl⟩, ?_⟩)
    · repeat (first | exact trivial | refine ⟨.inl ⟨_, rfl, (by first | rfl | (rfl))⟩, ?_⟩ | refine ⟨.inr ⟨Nat.le_of_ble_eq_true rfl, rfl, rfl, rfl, rfl⟩, ?_⟩)
  rintro ⟨⟨i, p⟩, i1, i2, i3⟩
  simp only at i1 i2 i3 ⊢
  have hw0 : IntKind.i64.wrap ((i : Int) + 1) = ((i + 1 : Nat) : Int) := e_succ i 100 (by omega) (by omega)
  refine CaseB.mk (fun g => ?_) (fun g => ?_)
  refine CaseB.mk (fun g2 => ?_) (fun g2 => ?_)
  · rw [hw0] at g
    have hlt : i < ls.length := by have := of_decide_eq_true g; omega
    have hiL : i < Ls.length := by have := of_decide_eq_true g; have := of_decide_eq_true g2; omega
    have hst := foldl_take stepL progZ Ls hiL
    rw [← i2, hLi i hiL hlt] at hst
    obtain ⟨ln, hln⟩ : ∃ ln, ln = ls[i] := ⟨_, rfl⟩
    have hll : ln.length ≤ 1000 := by rw [hln]; exact hpt _ (List.getElem_mem hlt)
    rw [← hln] at hst
    refine stop_idx encTxt tabOk rfl rfl rfl rfl rfl ⟨rfl, rfl⟩ (rdOwnAt 6 rfl) i rfl (by first | omega | (simp; done) | (simp; omega) | (unfold maxLen; omega) | (unfold maxLen; simp; done) | (unfold maxLen; simp; omega)) (fun ad0 => ?_)
    rw [← hln]
    refine stop_call _ cl69 rfl rfl rfl rfl ⟨rfl, rfl⟩ (fun A w hW => (line_c ln [115, 101, 109, 115] w hll)) ?_
    rintro v L ⟨z0, n0, b0, rfl, f0, t0, rfl⟩
    refine stop_idx encTxt tabOk rfl rfl rfl rfl rfl ⟨rfl, rfl⟩ (rdOwnAt 7 rfl) i rfl (by first | omega | (simp; done) | (simp; omega) | (unfold maxLen; omega) | (unfold maxLen; simp; done) | (unfold maxLen; simp; omega)) (fun ad1 => ?_)
    rw [← hln]
    refine stop_call _ cl69 rfl rfl rfl rfl ⟨rfl, rfl⟩ (fun A w hW => (line_c ln [103, 114, 111, 117, 112, 115] w hll)) ?_
    rintro v L ⟨z1, n1, b1, rfl, f1, t1, rfl⟩
    refine stop_idx encTxt tabOk rfl rfl rfl rfl rfl ⟨rfl, rfl⟩ (rdOwnAt 8 rfl) i rfl (by first | omega | (simp; done) | (simp; omega) | (unfold maxLen; omega) | (unfold maxLen; simp; done) | (unfold maxLen; simp; omega)) (fun ad2 => ?_)
    rw [← hln]
    refine stop_call _ cl69 rfl rfl rfl rfl ⟨rfl, rfl⟩ (fun A w hW => (line_c ln [98, 97, 114, 114, 105, 101, 114, 115] w hll)) ?_
    rintro v L ⟨z2, n2, b2, rfl, f2, t2, rfl⟩
    refine stop_idx encTxt tabOk rfl rfl rfl rfl rfl ⟨rfl, rfl⟩ (rdOwnAt 9 rfl) i rfl (by first | omega | (simp; done) | (simp; omega) | (unfold maxLen; omega) | (unfold maxLen; simp; done) | (unfold maxLen; simp; omega)) (fun ad3 => ?_)
    rw [← hln]
    refine stop_call _ cl69 rfl rfl rfl rfl ⟨rfl, rfl⟩ (fun A w hW => (line_c ln [114, 111, 111, 109, 115] w hll)) ?_
    rintro v L ⟨z3, n3, b3, rfl, f3, t3, rfl⟩
    refine stop_idx encTxt tabOk rfl rfl rfl rfl rfl ⟨rfl, rfl⟩ (rdOwnAt 10 rfl) i rfl (by first | omega | (simp; done) | (simp; omega) | (unfold maxLen; omega) | (unfold maxLen; simp; done) | (unfold maxLen; simp; omega)) (fun ad4 => ?_)
    rw [← hln]
    refine stop_call _ cl70 rfl rfl rfl rfl ⟨rfl, rfl⟩ (fun A w hW => (threadP_c ln w hll)) ?_
    rintro v L ⟨z4, n4, b4, rfl, f4, t4, rfl⟩
    refine CaseB.mk (fun e0 => ?_) (fun e0 => ?_)
    · have hn : stepL p.pure ln = (ProgH.pure { p with sems := n0, h0 := z0 }) := by simp only [stepL, t0 e0]; rfl
      refine ⟨⟨(i + 1, { p with sems := n0, h0 := z0 }), hiL, by rw [hst, hn], show p.threads.length ≤ i + 1 by omega⟩, ?_, by simp only; omega⟩
      refine weak_mk [4, 6, 7, 8, 9, 10, 11] ?_ ?_ ?_ ?_ ?_ rfl rfl
      · repeat (first | exact trivial | refine ⟨⟨_, rfl, (by first | exact .of rfl | exact .lit rfl | exact .of (by first | ((exact congrArg (fun z => SV.v (Value.int .i64 z)) hw0))) | exact .lit (by first | ((exact congrArg (fun z => SV.v (Value.int .i64 z)) hw0)))), (by first | exact trivial | exact Nat.le_of_ble_eq_true rfl | exact small1 rfl)⟩, ?_⟩)
      · repeat (first | exact trivial | refine ⟨⟨(by first | exact .head _ | exact .tail _ (.head _) | exact .tail _ (.tail _ (.head _)) | exact .tail _ (.tail _ (.tail _ (.head _))) | exact .tail _ (.tail _ (.tail _ (.tail _ (.head _)))) | exact .tail _ (.tail _ (.tail _ (.tail _ (.tail _ (.head _))))) | exact .tail _ (.tail _ (.tail _ (.tail _ (.tail _ (.tail _ (.head _)))))) | exact .tail _ (.tail _ (.tail _ (.tail _ (.tail _ (.tail _ (.tail _ (.head _))))))) | exact .tail _ (.tail _ (.tail _ (.tail _ (.tail _ (.tail _ (.tail _ (.tail _ (.head _)))))))) | exact .tail _ (.tail _ (.tail _ (.tail _ (.tail _ (.tail _ (.tail _ (.tail _ (.tail _ (.head _)))))))))), Nat.le_of_ble_eq_true rfl⟩, ?_⟩)
      · repeat (first | exact trivial | refine ⟨⟨_, rfl, (by first | exact .of rfl | exact .lit rfl | exact .of (by first | ((exact congrArg (fun z => SV.v (Value.int .i64 z)) hw0))) | exact .lit (by first | ((exact congrArg (fun z => SV.v (Value.int .i64 z)) hw0)))), (by first | exact trivial | exact Nat.le_of_ble_eq_true rfl | exact small1 rfl)⟩, ?_⟩)
      · repeat (first | exact trivial | refine ⟨⟨_, rfl⟩, ?_⟩)
      · repeat (first | exact trivial | refine ⟨.inl ⟨_, rfl, (by first | rfl | ((exact congrArg (fun z => SV.v (Value.int .i64 z)) hw0)))⟩, ?_⟩ | refine ⟨.inr ⟨Nat.le_of_ble_eq_true rfl, rfl, rfl, rfl, rfl⟩, ?_⟩)
    refine CaseB.mk (fun e1 => ?_) (fun e1 => ?_)
    · have hn : stepL p.pure ln = (ProgH.pure { p with groups := n1, h1 := z1 }) := by simp only [stepL, f0 e0, t1 e1]; rfl
      refine ⟨⟨(i + 1, { p with groups := n1, h1 := z1 }), hiL, by rw [hst, hn], show p.threads.length ≤ i + 1 by omega⟩, ?_, by simp only; omega⟩
      refine weak_mk [5, 3, 7, 8, 9, 10, 11] ?_ ?_ ?_ ?_ ?_ rfl rfl
      · repeat (first | exact trivial | refine ⟨⟨_, rfl, (by first | exact .of rfl | exact .lit rfl | exact .of (by first | ((exact congrArg (fun z => SV.v (Value.int .i64 z)) hw0))) | exact .lit (by first | ((exact congrArg (fun z => SV.v (Value.int .i64 z)) hw0)))), (by first | exact trivial | exact Nat.le_of_ble_eq_true rfl | exact small1 rfl)⟩, ?_⟩)
      · repeat (first | exact trivial | refine ⟨⟨(by first | exact .head _ | exact .tail _ (.head _) | exact .tail _ (.tail _ (.head _)) | exact .tail _ (.tail _ (.tail _ (.head _))) | exact .tail _ (.tail _ (.tail _ (.tail _ (.head _)))) | exact .tail _ (.tail _ (.tail _ (.tail _ (.tail _ (.head _))))) | exact .tail _ (.tail _ (.tail _ (.tail _ (.tail _ (.tail _ (.head _)))))) | exact .tail _ (.tail _ (.tail _ (.tail _ (.tail _ (.tail _ (.tail _ (.head _))))))) | exact .tail _ (.tail _ (.tail _ (.tail _ (.tail _ (.tail _ (.tail _ (.tail _ (.head _)))))))) | exact .tail _ (.tail _ (.tail _ (.tail _ (.tail _ (.tail _ (.tail _ (.tail _ (.tail _ (.head _)))))))))), Nat.le_of_ble_eq_true rfl⟩, ?_⟩)
      · repeat (first | exact trivial | refine ⟨⟨_, rfl, (by first | exact .of rfl | exact .lit rfl | exact .of (by first | ((exact congrArg (fun z => SV.v (Value.int .i64 z)) hw0))) | exact .lit (by first | ((exact congrArg (fun z => SV.v (Value.int .i64 z)) hw0)))), (by first | exact trivial | exact Nat.le_of_ble_eq_true rfl | exact small1 rfl)⟩, ?_⟩)
      · repeat (first | exact trivial | refine ⟨⟨_, rfl⟩, ?_⟩)
      · repeat (first | exact trivial | refine ⟨.inl ⟨_, rfl, (by first | rfl | ((exact congrArg (fun z => SV.v (Value.int .i64 z)) hw0)))⟩, ?_⟩ | refine ⟨.inr ⟨Nat.le_of_ble_eq_true rfl, rfl, rfl, rfl, rfl⟩, ?_⟩)
    refine CaseB.mk (fun e2 => ?_) (fun e2 => ?_)
    · have hn : stepL p.pure ln = (ProgH.pure { p with barriers := n2, h2 := z2 }) := by simp only [stepL, f0 e0, f1 e1, t2 e2]; rfl
      refine ⟨⟨(i + 1, { p with barriers := n2, h2 := z2 }), hiL, by rw [hst, hn], show p.threads.length ≤ i + 1 by omega⟩, ?_, by simp only; omega⟩
      refine weak_mk [5, 6, 2, 8, 9, 10, 11] ?_ ?_ ?_ ?_ ?_ rfl rfl
      · repeat (first | exact trivial | refine ⟨⟨_, rfl, (by first | exact .of rfl | exact .lit rfl | exact .of (by first | ((exact congrArg (fun z => SV.v (Value.int .i64 z)) hw0))) | exact .lit (by first | ((exact congrArg (fun z => SV.v (Value.int .i64 z)) hw0)))), (by first | exact trivial | exact Nat.le_of_ble_eq_true rfl | exact small1 rfl)⟩, ?_⟩)
      · repeat (first | exact trivial | refine ⟨⟨(by first | exact .head _ | exact .tail _ (.head _) | exact .tail _ (.tail _ (.head _)) | exact .tail _ (.tail _ (.tail _ (.head _))) | exact .tail _ (.tail _ (.tail _ (.tail _ (.head _)))) | exact .tail _ (.tail _ (.tail _ (.tail _ (.tail _ (.head _))))) | exact .tail _ (.tail _ (.tail _ (.tail _ (.tail _ (.tail _ (.head _)))))) | exact .tail _ (.tail _ (.tail _ (.tail _ (.tail _ (.tail _ (.tail _ (.head _))))))) | exact .tail _ (.tail _ (.tail _ (.tail _ (.tail _ (.tail _ (.tail _ (.tail _ (.head _)))))))) | exact .tail _ (.tail _ (.tail _ (.tail _ (.tail _ (.tail _ (.tail _ (.tail _ (.tail _ (.head _)))))))))), Nat.le_of_ble_eq_true rfl⟩, ?_⟩)
      · repeat (first | exact trivial | refine ⟨⟨_, rfl, (by first | exact .of rfl | exact .lit rfl | exact .of (by first | ((exact congrArg (fun z => SV.v (Value.int .i64 z)) hw0))) | exact .lit (by first | ((exact congrArg (fun z => SV.v (Value.int .i64 z)) hw0)))), (by first | exact trivial | exact Nat.le_of_ble_eq_true rfl | exact small1 rfl)⟩, ?_⟩)
      · repeat (first | exact trivial | refine ⟨⟨_, rfl⟩, ?_⟩)
      · repeat (first | exact trivial | refine ⟨.inl ⟨_, rfl, (by first | rfl | ((exact congrArg (fun z => SV.v (Value.int .i64 z)) hw0)))⟩, ?_⟩ | refine ⟨.inr ⟨Nat.le_of_ble_eq_true rfl, rfl, rfl, rfl, rfl⟩, ?_⟩)
    refine CaseB.mk (fun e3 => ?_) (fun e3 => ?_)
    · have hn : stepL p.pure ln = (ProgH.pure { p with rooms := n3, h3 := z3 }) := by simp only [stepL, f0 e0, f1 e1, f2 e2, t3 e3]; rfl
      refine ⟨⟨(i + 1, { p with rooms := n3, h3 := z3 }), hiL, by rw [hst, hn], show p.threads.length ≤ i + 1 by omega⟩, ?_, by simp only; omega⟩
      refine weak_mk [5, 6, 7, 1, 9, 10, 11] ?_ ?_ ?_ ?_ ?_ rfl rfl
      · repeat (first | exact trivial | refine ⟨⟨_, rfl, (by first | exact .of rfl | exact .lit rfl | exact .of (by first | ((exact congrArg (fun z => SV.v (Value.int .i64 z)) hw0))) | exact .lit (by first | ((exact congrArg (fun z => SV.v (Value.int .i64 z)) hw0)))), (by first | exact trivial | exact Nat.le_of_ble_eq_true rfl | exact small1 rfl)⟩, ?_⟩)
      · repeat (first | exact trivial | refine ⟨⟨(by first | exact .head _ | exact .tail _ (.head _) | exact .tail _ (.tail _ (.head _)) | exact .tail _ (.tail _ (.tail _ (.head _))) | exact .tail _ (.tail _ (.tail _ (.tail _ (.head _)))) | exact .tail _ (.tail _ (.tail _ (.tail _ (.tail _ (.head _))))) | exact .tail _ (.tail _ (.tail _ (.tail _ (.tail _ (.tail _ (.head _)))))) | exact .tail _ (.tail _ (.tail _ (.tail _ (.tail _ (.tail _ (.tail _ (.head _))))))) | exact .tail _ (.tail _ (.tail _ (.tail _ (.tail _ (.tail _ (.tail _ (.tail _ (.head _)))))))) | exact .tail _ (.tail _ (.tail _ (.tail _ (.tail _ (.tail _ (.tail _ (.tail _ (.tail _ (.head _)))))))))), Nat.le_of_ble_eq_true rfl⟩, ?_⟩)
      · repeat (first | exact trivial | refine ⟨⟨_, rfl, (by first | exact .of rfl | exact .lit rfl | exact .of (by first | ((exact congrArg (fun z => SV.v (Value.int .i64 z)) hw0))) | exact .lit (by first | ((exact congrArg (fun z => SV.v (Value.int .i64 z)) hw0)))), (by first | exact trivial | exact Nat.le_of_ble_eq_true rfl | exact small1 rfl)⟩, ?_⟩)
      · repeat (first | exact trivial | refine ⟨⟨_, rfl⟩, ?_⟩)
      · repeat (first | exact trivial | refine ⟨.inl ⟨_, rfl, (by first | rfl | ((exact congrArg (fun z => SV.v (Value.int .i64 z)) hw0)))⟩, ?_⟩ | refine ⟨.inr ⟨Nat.le_of_ble_eq_true rfl, rfl, rfl, rfl, rfl⟩, ?_⟩)
    refine CaseB.mk (fun e4 => ?_) (fun e4 => ?_)
    · refine AllSl.mk fun b5 => ?_
      obtain ⟨x, hx⟩ : ∃ x : OpSH, x = ⟨n4, z4⟩ := ⟨_, rfl⟩
      refine stop_app encOpSH 10 tabOk (xs := p.threads) (ys := [⟨n4, z4⟩]) rfl rfl rfl rfl rfl rfl rfl rfl rfl (by decide) ⟨rfl, rfl⟩ rfl (by first | exact rdAt 0 rfl | exact rdOwnAt 0 rfl | exact rdAt 1 rfl | exact rdOwnAt 1 rfl | exact rdAt 2 rfl | exact rdOwnAt 2 rfl | exact rdAt 3 rfl | exact rdOwnAt 3 rfl | exact rdAt 4 rfl | exact rdOwnAt 4 rfl | exact rdAt 5 rfl | exact rdOwnAt 5 rfl | exact rdAt 6 rfl | exact rdOwnAt 6 rfl | exact rdAt 7 rfl | exact rdOwnAt 7 rfl | exact rdAt 8 rfl | exact rdOwnAt 8 rfl | exact rdAt 9 rfl | exact rdOwnAt 9 rfl | exact rdAt 10 rfl | exact rdOwnAt 10 rfl | exact rdAt 11 rfl | exact rdOwnAt 11 rfl | exact rdAt 12 rfl | exact rdOwnAt 12 rfl | exact rdAt 13 rfl | exact rdOwnAt 13 rfl | exact rdAt 14 rfl | exact rdOwnAt 14 rfl | exact rdAt 15 rfl | exact rdOwnAt 15 rfl | exact rdAt 16 rfl | exact rdOwnAt 16 rfl | exact rdAt 17 rfl | exact rdOwnAt 17 rfl | exact rdAt 18 rfl | exact rdOwnAt 18 rfl | exact rdAt 19 rfl | exact rdOwnAt 19 rfl | exact rdAt 20 rfl | exact rdOwnAt 20 rfl | exact rdAt 21 rfl | exact rdOwnAt 21 rfl | exact rdAt 22 rfl | exact rdOwnAt 22 rfl | exact rdAt 23 rfl | exact rdOwnAt 23 rfl) (by first | omega | (simp; done) | (simp; omega) | (unfold maxLen; omega) | (unfold maxLen; simp; done) | (unfold maxLen; simp; omega)) (by first | omega | (simp; done) | (simp; omega) | (unfold maxLen; omega) | (unfold maxLen; simp; done) | (unfold maxLen; simp; omega)) (fun z5 => ?_)
      rw [← hx]
      have hn : stepL p.pure ln = (ProgH.pure { p with threads := p.threads ++ [x], h4 := z5 }) := by simp only [stepL, f0 e0, f1 e1, f2 e2, f3 e3, t4 e4]; subst hx; simp [ProgH.pure]
      refine ⟨⟨(i + 1, { p with threads := p.threads ++ [x], h4 := z5 }), hiL, by rw [hst, hn], by simp; omega⟩, ?_, by simp only; omega⟩
      refine weak_shift (.joinO [2, 11] (Gs := [[_], _]) ⟨.inl ⟨_, rfl, .own⟩, .inl ⟨_, rfl, .o⟩, trivial⟩ rfl (G := (p.threads ++ [x]).flatMap opSO) (by subst hx; rw [List.flatMap_append]; exact (List.Perm.of_eq (by simp [opSO])).trans List.perm_append_comm)) ?_
      refine weak_mk [7, 8, 9, 10, 1, 0, 11] ?_ ?_ ?_ ?_ ?_ rfl rfl
      · repeat (first | exact trivial | refine ⟨⟨_, rfl, (by first | exact .of rfl | exact .lit rfl | exact .of (by first | ((exact congrArg (fun z => SV.v (Value.int .i64 z)) hw0))) | exact .lit (by first | ((exact congrArg (fun z => SV.v (Value.int .i64 z)) hw0)))), (by first | exact trivial | exact Nat.le_of_ble_eq_true rfl | exact small1 rfl)⟩, ?_⟩)
      · repeat (first | exact trivial | refine ⟨⟨(by first | exact .head _ | exact .tail _ (.head _) | exact .tail _ (.tail _ (.head _)) | exact .tail _ (.tail _ (.tail _ (.head _))) | exact .tail _ (.tail _ (.tail _ (.tail _ (.head _)))) | exact .tail _ (.tail _ (.tail _ (.tail _ (.tail _ (.head _))))) | exact .tail _ (.tail _ (.tail _ (.tail _ (.tail _ (.tail _ (.head _)))))) | exact .tail _ (.tail _ (.tail _ (.tail _ (.tail _ (.tail _ (.tail _ (.head _))))))) | exact .tail _ (.tail _ (.tail _ (.tail _ (.tail _ (.tail _ (.tail _ (.tail _ (.head _)))))))) | exact .tail _ (.tail _ (.tail _ (.tail _ (.tail _ (.tail _ (.tail _ (.tail _ (.tail _ (.head _)))))))))), Nat.le_of_ble_eq_true rfl⟩, ?_⟩)
      · repeat (first | exact trivial | refine ⟨⟨_, rfl, (by first | exact .of rfl | exact .lit rfl | exact .of (by first | ((exact congrArg (fun z => SV.v (Value.int .i64 z)) hw0))) | exact .lit (by first | ((exact congrArg (fun z => SV.v (Value.int .i64 z)) hw0)))), (by first | exact trivial | exact Nat.le_of_ble_eq_true rfl | exact small1 rfl)⟩, ?_⟩)
      · repeat (first | exact trivial | refine ⟨⟨_, rfl⟩, ?_⟩)
      · repeat (first | exact trivial | refine ⟨.inl ⟨_, rfl, (by first | rfl | ((exact congrArg (fun z => SV.v (Value.int .i64 z)) hw0)))⟩, ?_⟩ | refine ⟨.inr ⟨Nat.le_of_ble_eq_true rfl, rfl, rfl, rfl, rfl⟩, ?_⟩)
    have hn : stepL p.pure ln = p.pure := by simp only [stepL, f0 e0, f1 e1, f2 e2, f3 e3, f4 e4]
    refine ⟨⟨(i + 1, p), hiL, by rw [hst, hn], show p.threads.length ≤ i + 1 by omega⟩, ?_, by simp only; omega⟩
    refine weak_mk [5, 6, 7, 8, 9, 10, 11] ?_ ?_ ?_ ?_ ?_ rfl rfl
    · repeat (first | exact trivial | refine ⟨⟨_, rfl, (by first | exact .of rfl | exact .lit rfl | exact .of (by first | ((exact congrArg (fun z => SV.v (Value.int .i64 z)) hw0))) | exact .lit (by first | ((exact congrArg (fun z => SV.v (Value.int .i64 z)) hw0)))), (by first | exact trivial | exact Nat.le_of_ble_eq_true rfl | exact small1 rfl)⟩, ?_⟩)
    · repeat (first | exact trivial | refine ⟨⟨(by first | exact .head _ | exact .tail _ (.head _) | exact .tail _ (.tail _ (.head _)) | exact .tail _ (.tail _ (.tail _ (.head _))) | exact .tail _ (.tail _ (.tail _ (.tail _ (.head _)))) | exact .tail _ (.tail _ (.tail _ (.tail _ (.tail _ (.head _))))) | exact .tail _ (.tail _ (.tail _ (.tail _ (.tail _ (.tail _ (.head _)))))) | exact .tail _ (.tail _ (.tail _ (.tail _ (.tail _ (.tail _ (.tail _ (.head _))))))) | exact .tail _ (.tail _ (.tail _ (.tail _ (.tail _ (.tail _ (.tail _ (.tail _ (.head _)))))))) | exact .tail _ (.tail _ (.tail _ (.tail _ (.tail _ (.tail _ (.tail _ (.tail _ (.tail _ (.head _)))))))))), Nat.le_of_ble_eq_true rfl⟩, ?_⟩)
    · repeat (first | exact trivial | refine ⟨⟨_, rfl, (by first | exact .of rfl | exact .lit rfl | exact .of (by first | ((exact congrArg (fun z => SV.v (Value.int .i64 z)) hw0))) | exact .lit (by first | ((exact congrArg (fun z => SV.v (Value.int .i64 z)) hw0)))), (by first | exact trivial | exact Nat.le_of_ble_eq_true rfl | exact small1 rfl)⟩, ?_⟩)
    · repeat (first | exact trivial | refine ⟨⟨_, rfl⟩, ?_⟩)
    · repeat (first | exact trivial | refine ⟨.inl ⟨_, rfl, (by first | rfl | ((exact congrArg (fun z => SV.v (Value.int .i64 z)) hw0)))⟩, ?_⟩ | refine ⟨.inr ⟨Nat.le_of_ble_eq_true rfl, rfl, rfl, rfl, rfl⟩, ?_⟩)
  have hie : i = Ls.length := by have := of_decide_eq_false g2; omega
  rotate_left
  have hie : i = Ls.length := by rw [hw0] at g; have := of_decide_eq_false g; omega
  rotate_left
  all_goals
    rw [hie, List.take_length, ← hM] at i2
    have sz : p.sems.length ≤ 3 ∧ p.groups.length ≤ 3 ∧ p.barriers.length ≤ 3 ∧ p.rooms.length ≤ 3 := by
      rw [← i2] at ok; exact ⟨ok.sems.1, ok.groups.1, ok.barriers.1, ok.rooms.1⟩
    refine stop_shift (.joinO [0, 1, 2, 3, 4, 5] (Gs := [[_], [_], [_], [_], [_], _]) ⟨.inl ⟨_, rfl, .own⟩, .inl ⟨_, rfl, .own⟩, .inl ⟨_, rfl, .own⟩, .inl ⟨_, rfl, .own⟩, .inl ⟨_, rfl, .own⟩, .inl ⟨_, rfl, .o⟩, trivial⟩ rfl (G := progO p) (.of_eq (by simp [progO, threadsO, nestO]))) ?_
    refine stop_call _ cl13 rfl rfl rfl rfl ⟨rfl, rfl⟩ (fun A w hW => progValidS_c p w ⟨hW.get 0 rfl (.O_R fun _ h => h), trivial⟩ ⟨by omega, by omega, by omega, by omega⟩) ?_
    rintro v L ⟨b0, rfl, hb0, rfl⟩
    rw [i2] at hb0
    refine CaseB.mk (fun g3 => by rw [hb0.2 ok] at g3; cases g3) (fun _ => ?_)
    refine stop_call _ cl71 rfl rfl rfl rfl ⟨rfl, rfl⟩ (fun A w hW => (fmtProg_c p w ⟨hW.get 0 rfl (.O_R fun _ h => h), trivial⟩ (by rw [i2]; exact ok))) ?_
    rintro v L ⟨rfl, rfl⟩
    rw [i2, hf]
    refine stop_bin rfl rfl rfl ⟨rfl, rfl⟩ (.bool (t != t)) (fun w => eqGuard_str w) (fun w => sne_run w) ?_
    refine CaseB.mk (fun g4 => by simp at g4) (fun _ => ?_)
    exact retw [0] ⟨p, rfl, i2, rfl⟩ ⟨.inl ⟨_, rfl, rfl⟩, trivial⟩ rfl ⟨rfl, trivial⟩ (fun _ => rfl)

end Go.Proofs.Ytjkkoonennpceaa

namespace Go.Proofs.Ytjkkoonennpceaa

open Go Go.Sx Go.RowKit

set_option maxRecDepth 100000 in
theorem of_c (g : Nat) (bi : Sl) (rb : List UInt8) (p : Nat) (i : Sl) (xs : List Str) (w : World) (hg : Blk w g 108 (rdrV bi rb p)) (h : AtP w g [slo bi cByte 1 rb, slo i cTxt 1 xs]) (hb : rb.length ≤ 2000) (hp : p < 1000000000) (h0 : 0 < xs.length) :
    Calls Try.prog 60 #[.pointer (some ⟨g, 0, none⟩), i.val xs.length] w (RetP w g 108 2 fun v cs L => ∃ x : Str, v = .string (bs x) ∧ x ∈ xs ∧ cs = rdrV bi rb (p + 1) ∧ L = []) := by
  refine callsP2 Try.func60 rfl tabOk w _ rfl _ rfl _ 108 _ 2 rfl hg _ h ⟨rfl, rfl, rfl, rfl, trivial⟩ _ (by decide) ?_
  refine stop_callP _ cl57 rfl rfl rfl rfl ⟨rfl, rfl⟩ rfl rfl (fun A w ga hga hW hblk => (pick_c ga bi rb p xs.length w hblk ⟨(by first | exact hW.rdP _ hga rfl 0 rfl | exact hW.rdOwnP _ hga rfl 0 rfl | exact hW.rdP _ hga rfl 1 rfl | exact hW.rdOwnP _ hga rfl 1 rfl | exact hW.rdP _ hga rfl 2 rfl | exact hW.rdOwnP _ hga rfl 2 rfl | exact hW.rdP _ hga rfl 3 rfl | exact hW.rdOwnP _ hga rfl 3 rfl | exact hW.rdP _ hga rfl 4 rfl | exact hW.rdOwnP _ hga rfl 4 rfl | exact hW.rdP _ hga rfl 5 rfl | exact hW.rdOwnP _ hga rfl 5 rfl | exact hW.rdP _ hga rfl 6 rfl | exact hW.rdOwnP _ hga rfl 6 rfl | exact hW.rdP _ hga rfl 7 rfl | exact hW.rdOwnP _ hga rfl 7 rfl | exact hW.rdP _ hga rfl 8 rfl | exact hW.rdOwnP _ hga rfl 8 rfl | exact hW.rdP _ hga rfl 9 rfl | exact hW.rdOwnP _ hga rfl 9 rfl | exact hW.rdP _ hga rfl 10 rfl | exact hW.rdOwnP _ hga rfl 10 rfl | exact hW.rdP _ hga rfl 11 rfl | exact hW.rdOwnP _ hga rfl 11 rfl | exact hW.rdP _ hga rfl 12 rfl | exact hW.rdOwnP _ hga rfl 12 rfl | exact hW.rdP _ hga rfl 13 rfl | exact hW.rdOwnP _ hga rfl 13 rfl | exact hW.rdP _ hga rfl 14 rfl | exact hW.rdOwnP _ hga rfl 14 rfl | exact hW.rdP _ hga rfl 15 rfl | exact hW.rdOwnP _ hga rfl 15 rfl | exact hW.rdP _ hga rfl 16 rfl | exact hW.rdOwnP _ hga rfl 16 rfl | exact hW.rdP _ hga rfl 17 rfl | exact hW.rdOwnP _ hga rfl 17 rfl | exact hW.rdP _ hga rfl 18 rfl | exact hW.rdOwnP _ hga rfl 18 rfl | exact hW.rdP _ hga rfl 19 rfl | exact hW.rdOwnP _ hga rfl 19 rfl | exact hW.rdP _ hga rfl 20 rfl | exact hW.rdOwnP _ hga rfl 20 rfl | exact hW.rdP _ hga rfl 21 rfl | exact hW.rdOwnP _ hga rfl 21 rfl | exact hW.rdP _ hga rfl 22 rfl | exact hW.rdOwnP _ hga rfl 22 rfl | exact hW.rdP _ hga rfl 23 rfl | exact hW.rdOwnP _ hga rfl 23 rfl), trivial⟩ hb hp)) ?_
  rintro v cs L ⟨k, rfl, hk, _, rfl, rfl⟩
  have hlt : k < xs.length := by have := hk (by omega); omega
  refine stop_idx encTxt tabOk rfl rfl rfl rfl rfl ⟨rfl, rfl⟩ (by first | exact rdAt 0 rfl | exact rdOwnAt 0 rfl | exact rdAt 1 rfl | exact rdOwnAt 1 rfl | exact rdAt 2 rfl | exact rdOwnAt 2 rfl | exact rdAt 3 rfl | exact rdOwnAt 3 rfl | exact rdAt 4 rfl | exact rdOwnAt 4 rfl | exact rdAt 5 rfl | exact rdOwnAt 5 rfl | exact rdAt 6 rfl | exact rdOwnAt 6 rfl | exact rdAt 7 rfl | exact rdOwnAt 7 rfl | exact rdAt 8 rfl | exact rdOwnAt 8 rfl | exact rdAt 9 rfl | exact rdOwnAt 9 rfl | exact rdAt 10 rfl | exact rdOwnAt 10 rfl | exact rdAt 11 rfl | exact rdOwnAt 11 rfl | exact rdAt 12 rfl | exact rdOwnAt 12 rfl | exact rdAt 13 rfl | exact rdOwnAt 13 rfl | exact rdAt 14 rfl | exact rdOwnAt 14 rfl | exact rdAt 15 rfl | exact rdOwnAt 15 rfl | exact rdAt 16 rfl | exact rdOwnAt 16 rfl | exact rdAt 17 rfl | exact rdOwnAt 17 rfl | exact rdAt 18 rfl | exact rdOwnAt 18 rfl | exact rdAt 19 rfl | exact rdOwnAt 19 rfl | exact rdAt 20 rfl | exact rdOwnAt 20 rfl | exact rdAt 21 rfl | exact rdOwnAt 21 rfl | exact rdAt 22 rfl | exact rdOwnAt 22 rfl | exact rdAt 23 rfl | exact rdOwnAt 23 rfl) k rfl (by first | omega | (simp; done) | (simp; omega) | (unfold maxLen; omega) | (unfold maxLen; simp; done) | (unfold maxLen; simp; omega)) (fun ad => ?_)
  exact retP [] ⟨_, rfl, List.getElem_mem hlt, rfl, rfl⟩ rfl rfl trivial rfl trivial (fun _ => rfl)

set_option maxRecDepth 100000 in
theorem samples_c (w : World) : Calls Try.prog 61 #[] w (Ret w fun v L => ∃ y : Sl, v = y.val samplesL.length ∧ L = [own y 9 cTxt 1 samplesL]) := by
  refine calls0 Try.func61 rfl tabOk w _ rfl _ rfl [] trivial trivial  ?_
  refine AllSl.mk fun y => ?_
  exact retw [0] ⟨y, rfl, rfl⟩ ⟨.inl ⟨_, rfl, rfl⟩, trivial⟩ rfl ⟨rfl, trivial⟩ (fun _ => rfl)

set_option maxHeartbeats 8000000 in
set_option maxRecDepth 100000 in
theorem op6_c (g : Nat) (bi : Sl) (rb : List UInt8) (p : Nat) (q : ProgH) (w : World) (hg : Blk w g 108 (rdrV bi rb p)) (h : AtP w g [slo bi cByte 1 rb, fR (progO q)]) (hb : rb.length ≤ 2000) (hp : p < 1000000) :
    Calls Try.prog 62 #[.pointer (some ⟨g, 0, none⟩), progV q] w (RetP w g 108 2 fun v cs L => ∃ (o : Op) (p2 : Nat), v = .agg (cOp o).toArray ∧ OpOk q.pure o ∧ cs = rdrV bi rb p2 ∧ p2 ≤ p + 4 ∧ L = []) := by
  refine callsP2 Try.func62 rfl tabOk w _ rfl _ rfl _ 108 _ 2 rfl hg _ h ⟨rfl, rfl, rfl, rfl, trivial⟩ _ (by decide) ?_
  refine AllSl.mk fun l1 => ?_
  refine stop_callP _ cl58 rfl rfl rfl rfl ⟨rfl, rfl⟩ rfl rfl (fun A w ga hga hW hblk => (num_c ga bi rb _ _ [1, 2, 3, 4, 5, 6, 7, 8, 9, 10, 1, 2, 3] w hblk ⟨(by first | exact hW.rdP _ hga rfl 0 rfl | exact hW.rdOwnP _ hga rfl 0 rfl | exact hW.rdP _ hga rfl 1 rfl | exact hW.rdOwnP _ hga rfl 1 rfl | exact hW.rdP _ hga rfl 2 rfl | exact hW.rdOwnP _ hga rfl 2 rfl | exact hW.rdP _ hga rfl 3 rfl | exact hW.rdOwnP _ hga rfl 3 rfl | exact hW.rdP _ hga rfl 4 rfl | exact hW.rdOwnP _ hga rfl 4 rfl | exact hW.rdP _ hga rfl 5 rfl | exact hW.rdOwnP _ hga rfl 5 rfl | exact hW.rdP _ hga rfl 6 rfl | exact hW.rdOwnP _ hga rfl 6 rfl | exact hW.rdP _ hga rfl 7 rfl | exact hW.rdOwnP _ hga rfl 7 rfl | exact hW.rdP _ hga rfl 8 rfl | exact hW.rdOwnP _ hga rfl 8 rfl | exact hW.rdP _ hga rfl 9 rfl | exact hW.rdOwnP _ hga rfl 9 rfl | exact hW.rdP _ hga rfl 10 rfl | exact hW.rdOwnP _ hga rfl 10 rfl | exact hW.rdP _ hga rfl 11 rfl | exact hW.rdOwnP _ hga rfl 11 rfl | exact hW.rdP _ hga rfl 12 rfl | exact hW.rdOwnP _ hga rfl 12 rfl | exact hW.rdP _ hga rfl 13 rfl | exact hW.rdOwnP _ hga rfl 13 rfl | exact hW.rdP _ hga rfl 14 rfl | exact hW.rdOwnP _ hga rfl 14 rfl | exact hW.rdP _ hga rfl 15 rfl | exact hW.rdOwnP _ hga rfl 15 rfl | exact hW.rdP _ hga rfl 16 rfl | exact hW.rdOwnP _ hga rfl 16 rfl | exact hW.rdP _ hga rfl 17 rfl | exact hW.rdOwnP _ hga rfl 17 rfl | exact hW.rdP _ hga rfl 18 rfl | exact hW.rdOwnP _ hga rfl 18 rfl | exact hW.rdP _ hga rfl 19 rfl | exact hW.rdOwnP _ hga rfl 19 rfl | exact hW.rdP _ hga rfl 20 rfl | exact hW.rdOwnP _ hga rfl 20 rfl | exact hW.rdP _ hga rfl 21 rfl | exact hW.rdOwnP _ hga rfl 21 rfl | exact hW.rdP _ hga rfl 22 rfl | exact hW.rdOwnP _ hga rfl 22 rfl | exact hW.rdP _ hga rfl 23 rfl | exact hW.rdOwnP _ hga rfl 23 rfl), (by first | exact hW.rdP _ hga rfl 0 rfl | exact hW.rdOwnP _ hga rfl 0 rfl | exact hW.rdP _ hga rfl 1 rfl | exact hW.rdOwnP _ hga rfl 1 rfl | exact hW.rdP _ hga rfl 2 rfl | exact hW.rdOwnP _ hga rfl 2 rfl | exact hW.rdP _ hga rfl 3 rfl | exact hW.rdOwnP _ hga rfl 3 rfl | exact hW.rdP _ hga rfl 4 rfl | exact hW.rdOwnP _ hga rfl 4 rfl | exact hW.rdP _ hga rfl 5 rfl | exact hW.rdOwnP _ hga rfl 5 rfl | exact hW.rdP _ hga rfl 6 rfl | exact hW.rdOwnP _ hga rfl 6 rfl | exact hW.rdP _ hga rfl 7 rfl | exact hW.rdOwnP _ hga rfl 7 rfl | exact hW.rdP _ hga rfl 8 rfl | exact hW.rdOwnP _ hga rfl 8 rfl | exact hW.rdP _ hga rfl 9 rfl | exact hW.rdOwnP _ hga rfl 9 rfl | exact hW.rdP _ hga rfl 10 rfl | exact hW.rdOwnP _ hga rfl 10 rfl | exact hW.rdP _ hga rfl 11 rfl | exact hW.rdOwnP _ hga rfl 11 rfl | exact hW.rdP _ hga rfl 12 rfl | exact hW.rdOwnP _ hga rfl 12 rfl | exact hW.rdP _ hga rfl 13 rfl | exact hW.rdOwnP _ hga rfl 13 rfl | exact hW.rdP _ hga rfl 14 rfl | exact hW.rdOwnP _ hga rfl 14 rfl | exact hW.rdP _ hga rfl 15 rfl | exact hW.rdOwnP _ hga rfl 15 rfl | exact hW.rdP _ hga rfl 16 rfl | exact hW.rdOwnP _ hga rfl 16 rfl | exact hW.rdP _ hga rfl 17 rfl | exact hW.rdOwnP _ hga rfl 17 rfl | exact hW.rdP _ hga rfl 18 rfl | exact hW.rdOwnP _ hga rfl 18 rfl | exact hW.rdP _ hga rfl 19 rfl | exact hW.rdOwnP _ hga rfl 19 rfl | exact hW.rdP _ hga rfl 20 rfl | exact hW.rdOwnP _ hga rfl 20 rfl | exact hW.rdP _ hga rfl 21 rfl | exact hW.rdOwnP _ hga rfl 21 rfl | exact hW.rdP _ hga rfl 22 rfl | exact hW.rdOwnP _ hga rfl 22 rfl | exact hW.rdP _ hga rfl 23 rfl | exact hW.rdOwnP _ hga rfl 23 rfl), trivial⟩ hb (by omega) (by decide))) ?_
  rintro v cs L ⟨k, rfl, _, rfl, rfl⟩
  refine stop_callP _ cl57 rfl rfl rfl rfl ⟨rfl, rfl⟩ rfl rfl (fun A w ga hga hW hblk => (pick_c ga bi rb _ _ w hblk ⟨(by first | exact hW.rdP _ hga rfl 0 rfl | exact hW.rdOwnP _ hga rfl 0 rfl | exact hW.rdP _ hga rfl 1 rfl | exact hW.rdOwnP _ hga rfl 1 rfl | exact hW.rdP _ hga rfl 2 rfl | exact hW.rdOwnP _ hga rfl 2 rfl | exact hW.rdP _ hga rfl 3 rfl | exact hW.rdOwnP _ hga rfl 3 rfl | exact hW.rdP _ hga rfl 4 rfl | exact hW.rdOwnP _ hga rfl 4 rfl | exact hW.rdP _ hga rfl 5 rfl | exact hW.rdOwnP _ hga rfl 5 rfl | exact hW.rdP _ hga rfl 6 rfl | exact hW.rdOwnP _ hga rfl 6 rfl | exact hW.rdP _ hga rfl 7 rfl | exact hW.rdOwnP _ hga rfl 7 rfl | exact hW.rdP _ hga rfl 8 rfl | exact hW.rdOwnP _ hga rfl 8 rfl | exact hW.rdP _ hga rfl 9 rfl | exact hW.rdOwnP _ hga rfl 9 rfl | exact hW.rdP _ hga rfl 10 rfl | exact hW.rdOwnP _ hga rfl 10 rfl | exact hW.rdP _ hga rfl 11 rfl | exact hW.rdOwnP _ hga rfl 11 rfl | exact hW.rdP _ hga rfl 12 rfl | exact hW.rdOwnP _ hga rfl 12 rfl | exact hW.rdP _ hga rfl 13 rfl | exact hW.rdOwnP _ hga rfl 13 rfl | exact hW.rdP _ hga rfl 14 rfl | exact hW.rdOwnP _ hga rfl 14 rfl | exact hW.rdP _ hga rfl 15 rfl | exact hW.rdOwnP _ hga rfl 15 rfl | exact hW.rdP _ hga rfl 16 rfl | exact hW.rdOwnP _ hga rfl 16 rfl | exact hW.rdP _ hga rfl 17 rfl | exact hW.rdOwnP _ hga rfl 17 rfl | exact hW.rdP _ hga rfl 18 rfl | exact hW.rdOwnP _ hga rfl 18 rfl | exact hW.rdP _ hga rfl 19 rfl | exact hW.rdOwnP _ hga rfl 19 rfl | exact hW.rdP _ hga rfl 20 rfl | exact hW.rdOwnP _ hga rfl 20 rfl | exact hW.rdP _ hga rfl 21 rfl | exact hW.rdOwnP _ hga rfl 21 rfl | exact hW.rdP _ hga rfl 22 rfl | exact hW.rdOwnP _ hga rfl 22 rfl | exact hW.rdP _ hga rfl 23 rfl | exact hW.rdOwnP _ hga rfl 23 rfl), trivial⟩ hb (by omega))) ?_
  rintro v cs L ⟨on, rfl, _, _, rfl, rfl⟩
  refine CaseB.mk (fun e2 => ?_) (fun e2 => ?_)
  refine CaseB.mk (fun _ => ?_) (fun h => by rw [e2] at h; cases h)
  refine AllSl.mk fun l2 => ?_
  refine stop_callP _ cl58 rfl rfl rfl rfl ⟨rfl, rfl⟩ rfl rfl (fun A w ga hga hW hblk => (num_c ga bi rb _ _ [1, 1, 2] w hblk ⟨(by first | exact hW.rdP _ hga rfl 0 rfl | exact hW.rdOwnP _ hga rfl 0 rfl | exact hW.rdP _ hga rfl 1 rfl | exact hW.rdOwnP _ hga rfl 1 rfl | exact hW.rdP _ hga rfl 2 rfl | exact hW.rdOwnP _ hga rfl 2 rfl | exact hW.rdP _ hga rfl 3 rfl | exact hW.rdOwnP _ hga rfl 3 rfl | exact hW.rdP _ hga rfl 4 rfl | exact hW.rdOwnP _ hga rfl 4 rfl | exact hW.rdP _ hga rfl 5 rfl | exact hW.rdOwnP _ hga rfl 5 rfl | exact hW.rdP _ hga rfl 6 rfl | exact hW.rdOwnP _ hga rfl 6 rfl | exact hW.rdP _ hga rfl 7 rfl | exact hW.rdOwnP _ hga rfl 7 rfl | exact hW.rdP _ hga rfl 8 rfl | exact hW.rdOwnP _ hga rfl 8 rfl | exact hW.rdP _ hga rfl 9 rfl | exact hW.rdOwnP _ hga rfl 9 rfl | exact hW.rdP _ hga rfl 10 rfl | exact hW.rdOwnP _ hga rfl 10 rfl | exact hW.rdP _ hga rfl 11 rfl | exact hW.rdOwnP _ hga rfl 11 rfl | exact hW.rdP _ hga rfl 12 rfl | exact hW.rdOwnP _ hga rfl 12 rfl | exact hW.rdP _ hga rfl 13 rfl | exact hW.rdOwnP _ hga rfl 13 rfl | exact hW.rdP _ hga rfl 14 rfl | exact hW.rdOwnP _ hga rfl 14 rfl | exact hW.rdP _ hga rfl 15 rfl | exact hW.rdOwnP _ hga rfl 15 rfl | exact hW.rdP _ hga rfl 16 rfl | exact hW.rdOwnP _ hga rfl 16 rfl | exact hW.rdP _ hga rfl 17 rfl | exact hW.rdOwnP _ hga rfl 17 rfl | exact hW.rdP _ hga rfl 18 rfl | exact hW.rdOwnP _ hga rfl 18 rfl | exact hW.rdP _ hga rfl 19 rfl | exact hW.rdOwnP _ hga rfl 19 rfl | exact hW.rdP _ hga rfl 20 rfl | exact hW.rdOwnP _ hga rfl 20 rfl | exact hW.rdP _ hga rfl 21 rfl | exact hW.rdOwnP _ hga rfl 21 rfl | exact hW.rdP _ hga rfl 22 rfl | exact hW.rdOwnP _ hga rfl 22 rfl | exact hW.rdP _ hga rfl 23 rfl | exact hW.rdOwnP _ hga rfl 23 rfl), (by first | exact hW.rdP _ hga rfl 0 rfl | exact hW.rdOwnP _ hga rfl 0 rfl | exact hW.rdP _ hga rfl 1 rfl | exact hW.rdOwnP _ hga rfl 1 rfl | exact hW.rdP _ hga rfl 2 rfl | exact hW.rdOwnP _ hga rfl 2 rfl | exact hW.rdP _ hga rfl 3 rfl | exact hW.rdOwnP _ hga rfl 3 rfl | exact hW.rdP _ hga rfl 4 rfl | exact hW.rdOwnP _ hga rfl 4 rfl | exact hW.rdP _ hga rfl 5 rfl | exact hW.rdOwnP _ hga rfl 5 rfl | exact hW.rdP _ hga rfl 6 rfl | exact hW.rdOwnP _ hga rfl 6 rfl | exact hW.rdP _ hga rfl 7 rfl | exact hW.rdOwnP _ hga rfl 7 rfl | exact hW.rdP _ hga rfl 8 rfl | exact hW.rdOwnP _ hga rfl 8 rfl | exact hW.rdP _ hga rfl 9 rfl | exact hW.rdOwnP _ hga rfl 9 rfl | exact hW.rdP _ hga rfl 10 rfl | exact hW.rdOwnP _ hga rfl 10 rfl | exact hW.rdP _ hga rfl 11 rfl | exact hW.rdOwnP _ hga rfl 11 rfl | exact hW.rdP _ hga rfl 12 rfl | exact hW.rdOwnP _ hga rfl 12 rfl | exact hW.rdP _ hga rfl 13 rfl | exact hW.rdOwnP _ hga rfl 13 rfl | exact hW.rdP _ hga rfl 14 rfl | exact hW.rdOwnP _ hga rfl 14 rfl | exact hW.rdP _ hga rfl 15 rfl | exact hW.rdOwnP _ hga rfl 15 rfl | exact hW.rdP _ hga rfl 16 rfl | exact hW.rdOwnP _ hga rfl 16 rfl | exact hW.rdP _ hga rfl 17 rfl | exact hW.rdOwnP _ hga rfl 17 rfl | exact hW.rdP _ hga rfl 18 rfl | exact hW.rdOwnP _ hga rfl 18 rfl | exact hW.rdP _ hga rfl 19 rfl | exact hW.rdOwnP _ hga rfl 19 rfl | exact hW.rdP _ hga rfl 20 rfl | exact hW.rdOwnP _ hga rfl 20 rfl | exact hW.rdP _ hga rfl 21 rfl | exact hW.rdOwnP _ hga rfl 21 rfl | exact hW.rdP _ hga rfl 22 rfl | exact hW.rdOwnP _ hga rfl 22 rfl | exact hW.rdP _ hga rfl 23 rfl | exact hW.rdOwnP _ hga rfl 23 rfl), trivial⟩ hb (by omega) (by decide))) ?_
  rintro v cs L ⟨a, rfl, _, rfl, rfl⟩
  rotate_left
  refine CaseB.mk (fun e3 => ?_) (fun e3 => ?_)
  refine AllSl.mk fun l2 => ?_
  refine stop_callP _ cl58 rfl rfl rfl rfl ⟨rfl, rfl⟩ rfl rfl (fun A w ga hga hW hblk => (num_c ga bi rb _ _ [1, 1, 2] w hblk ⟨(by first | exact hW.rdP _ hga rfl 0 rfl | exact hW.rdOwnP _ hga rfl 0 rfl | exact hW.rdP _ hga rfl 1 rfl | exact hW.rdOwnP _ hga rfl 1 rfl | exact hW.rdP _ hga rfl 2 rfl | exact hW.rdOwnP _ hga rfl 2 rfl | exact hW.rdP _ hga rfl 3 rfl | exact hW.rdOwnP _ hga rfl 3 rfl | exact hW.rdP _ hga rfl 4 rfl | exact hW.rdOwnP _ hga rfl 4 rfl | exact hW.rdP _ hga rfl 5 rfl | exact hW.rdOwnP _ hga rfl 5 rfl | exact hW.rdP _ hga rfl 6 rfl | exact hW.rdOwnP _ hga rfl 6 rfl | exact hW.rdP _ hga rfl 7 rfl | exact hW.rdOwnP _ hga rfl 7 rfl | exact hW.rdP _ hga rfl 8 rfl | exact hW.rdOwnP _ hga rfl 8 rfl | exact hW.rdP _ hga rfl 9 rfl | exact hW.rdOwnP _ hga rfl 9 rfl | exact hW.rdP _ hga rfl 10 rfl | exact hW.rdOwnP _ hga rfl 10 rfl | exact hW.rdP _ hga rfl 11 rfl | exact hW.rdOwnP _ hga rfl 11 rfl | exact hW.rdP _ hga rfl 12 rfl | exact hW.rdOwnP _ hga rfl 12 rfl | exact hW.rdP _ hga rfl 13 rfl | exact hW.rdOwnP _ hga rfl 13 rfl | exact hW.rdP _ hga rfl 14 rfl | exact hW.rdOwnP _ hga rfl 14 rfl | exact hW.rdP _ hga rfl 15 rfl | exact hW.rdOwnP _ hga rfl 15 rfl | exact hW.rdP _ hga rfl 16 rfl | exact hW.rdOwnP _ hga rfl 16 rfl | exact hW.rdP _ hga rfl 17 rfl | exact hW.rdOwnP _ hga rfl 17 rfl | exact hW.rdP _ hga rfl 18 rfl | exact hW.rdOwnP _ hga rfl 18 rfl | exact hW.rdP _ hga rfl 19 rfl | exact hW.rdOwnP _ hga rfl 19 rfl | exact hW.rdP _ hga rfl 20 rfl | exact hW.rdOwnP _ hga rfl 20 rfl | exact hW.rdP _ hga rfl 21 rfl | exact hW.rdOwnP _ hga rfl 21 rfl | exact hW.rdP _ hga rfl 22 rfl | exact hW.rdOwnP _ hga rfl 22 rfl | exact hW.rdP _ hga rfl 23 rfl | exact hW.rdOwnP _ hga rfl 23 rfl), (by first | exact hW.rdP _ hga rfl 0 rfl | exact hW.rdOwnP _ hga rfl 0 rfl | exact hW.rdP _ hga rfl 1 rfl | exact hW.rdOwnP _ hga rfl 1 rfl | exact hW.rdP _ hga rfl 2 rfl | exact hW.rdOwnP _ hga rfl 2 rfl | exact hW.rdP _ hga rfl 3 rfl | exact hW.rdOwnP _ hga rfl 3 rfl | exact hW.rdP _ hga rfl 4 rfl | exact hW.rdOwnP _ hga rfl 4 rfl | exact hW.rdP _ hga rfl 5 rfl | exact hW.rdOwnP _ hga rfl 5 rfl | exact hW.rdP _ hga rfl 6 rfl | exact hW.rdOwnP _ hga rfl 6 rfl | exact hW.rdP _ hga rfl 7 rfl | exact hW.rdOwnP _ hga rfl 7 rfl | exact hW.rdP _ hga rfl 8 rfl | exact hW.rdOwnP _ hga rfl 8 rfl | exact hW.rdP _ hga rfl 9 rfl | exact hW.rdOwnP _ hga rfl 9 rfl | exact hW.rdP _ hga rfl 10 rfl | exact hW.rdOwnP _ hga rfl 10 rfl | exact hW.rdP _ hga rfl 11 rfl | exact hW.rdOwnP _ hga rfl 11 rfl | exact hW.rdP _ hga rfl 12 rfl | exact hW.rdOwnP _ hga rfl 12 rfl | exact hW.rdP _ hga rfl 13 rfl | exact hW.rdOwnP _ hga rfl 13 rfl | exact hW.rdP _ hga rfl 14 rfl | exact hW.rdOwnP _ hga rfl 14 rfl | exact hW.rdP _ hga rfl 15 rfl | exact hW.rdOwnP _ hga rfl 15 rfl | exact hW.rdP _ hga rfl 16 rfl | exact hW.rdOwnP _ hga rfl 16 rfl | exact hW.rdP _ hga rfl 17 rfl | exact hW.rdOwnP _ hga rfl 17 rfl | exact hW.rdP _ hga rfl 18 rfl | exact hW.rdOwnP _ hga rfl 18 rfl | exact hW.rdP _ hga rfl 19 rfl | exact hW.rdOwnP _ hga rfl 19 rfl | exact hW.rdP _ hga rfl 20 rfl | exact hW.rdOwnP _ hga rfl 20 rfl | exact hW.rdP _ hga rfl 21 rfl | exact hW.rdOwnP _ hga rfl 21 rfl | exact hW.rdP _ hga rfl 22 rfl | exact hW.rdOwnP _ hga rfl 22 rfl | exact hW.rdP _ hga rfl 23 rfl | exact hW.rdOwnP _ hga rfl 23 rfl), trivial⟩ hb (by omega) (by decide))) ?_
  rintro v cs L ⟨a, rfl, _, rfl, rfl⟩
  rotate_left
  refine CaseB.mk (fun e5 => ?_) (fun e5 => ?_)
  refine AllSl.mk fun l2 => ?_
  refine stop_callP _ cl58 rfl rfl rfl rfl ⟨rfl, rfl⟩ rfl rfl (fun A w ga hga hW hblk => (num_c ga bi rb _ _ [-1, 1, -2] w hblk ⟨(by first | exact hW.rdP _ hga rfl 0 rfl | exact hW.rdOwnP _ hga rfl 0 rfl | exact hW.rdP _ hga rfl 1 rfl | exact hW.rdOwnP _ hga rfl 1 rfl | exact hW.rdP _ hga rfl 2 rfl | exact hW.rdOwnP _ hga rfl 2 rfl | exact hW.rdP _ hga rfl 3 rfl | exact hW.rdOwnP _ hga rfl 3 rfl | exact hW.rdP _ hga rfl 4 rfl | exact hW.rdOwnP _ hga rfl 4 rfl | exact hW.rdP _ hga rfl 5 rfl | exact hW.rdOwnP _ hga rfl 5 rfl | exact hW.rdP _ hga rfl 6 rfl | exact hW.rdOwnP _ hga rfl 6 rfl | exact hW.rdP _ hga rfl 7 rfl | exact hW.rdOwnP _ hga rfl 7 rfl | exact hW.rdP _ hga rfl 8 rfl | exact hW.rdOwnP _ hga rfl 8 rfl | exact hW.rdP _ hga rfl 9 rfl | exact hW.rdOwnP _ hga rfl 9 rfl | exact hW.rdP _ hga rfl 10 rfl | exact hW.rdOwnP _ hga rfl 10 rfl | exact hW.rdP _ hga rfl 11 rfl | exact hW.rdOwnP _ hga rfl 11 rfl | exact hW.rdP _ hga rfl 12 rfl | exact hW.rdOwnP _ hga rfl 12 rfl | exact hW.rdP _ hga rfl 13 rfl | exact hW.rdOwnP _ hga rfl 13 rfl | exact hW.rdP _ hga rfl 14 rfl | exact hW.rdOwnP _ hga rfl 14 rfl | exact hW.rdP _ hga rfl 15 rfl | exact hW.rdOwnP _ hga rfl 15 rfl | exact hW.rdP _ hga rfl 16 rfl | exact hW.rdOwnP _ hga rfl 16 rfl | exact hW.rdP _ hga rfl 17 rfl | exact hW.rdOwnP _ hga rfl 17 rfl | exact hW.rdP _ hga rfl 18 rfl | exact hW.rdOwnP _ hga rfl 18 rfl | exact hW.rdP _ hga rfl 19 rfl | exact hW.rdOwnP _ hga rfl 19 rfl | exact hW.rdP _ hga rfl 20 rfl | exact hW.rdOwnP _ hga rfl 20 rfl | exact hW.rdP _ hga rfl 21 rfl | exact hW.rdOwnP _ hga rfl 21 rfl | exact hW.rdP _ hga rfl 22 rfl | exact hW.rdOwnP _ hga rfl 22 rfl | exact hW.rdP _ hga rfl 23 rfl | exact hW.rdOwnP _ hga rfl 23 rfl), (by first | exact hW.rdP _ hga rfl 0 rfl | exact hW.rdOwnP _ hga rfl 0 rfl | exact hW.rdP _ hga rfl 1 rfl | exact hW.rdOwnP _ hga rfl 1 rfl | exact hW.rdP _ hga rfl 2 rfl | exact hW.rdOwnP _ hga rfl 2 rfl | exact hW.rdP _ hga rfl 3 rfl | exact hW.rdOwnP _ hga rfl 3 rfl | exact hW.rdP _ hga rfl 4 rfl | exact hW.rdOwnP _ hga rfl 4 rfl | exact hW.rdP _ hga rfl 5 rfl | exact hW.rdOwnP _ hga rfl 5 rfl | exact hW.rdP _ hga rfl 6 rfl | exact hW.rdOwnP _ hga rfl 6 rfl | exact hW.rdP _ hga rfl 7 rfl | exact hW.rdOwnP _ hga rfl 7 rfl | exact hW.rdP _ hga rfl 8 rfl | exact hW.rdOwnP _ hga rfl 8 rfl | exact hW.rdP _ hga rfl 9 rfl | exact hW.rdOwnP _ hga rfl 9 rfl | exact hW.rdP _ hga rfl 10 rfl | exact hW.rdOwnP _ hga rfl 10 rfl | exact hW.rdP _ hga rfl 11 rfl | exact hW.rdOwnP _ hga rfl 11 rfl | exact hW.rdP _ hga rfl 12 rfl | exact hW.rdOwnP _ hga rfl 12 rfl | exact hW.rdP _ hga rfl 13 rfl | exact hW.rdOwnP _ hga rfl 13 rfl | exact hW.rdP _ hga rfl 14 rfl | exact hW.rdOwnP _ hga rfl 14 rfl | exact hW.rdP _ hga rfl 15 rfl | exact hW.rdOwnP _ hga rfl 15 rfl | exact hW.rdP _ hga rfl 16 rfl | exact hW.rdOwnP _ hga rfl 16 rfl | exact hW.rdP _ hga rfl 17 rfl | exact hW.rdOwnP _ hga rfl 17 rfl | exact hW.rdP _ hga rfl 18 rfl | exact hW.rdOwnP _ hga rfl 18 rfl | exact hW.rdP _ hga rfl 19 rfl | exact hW.rdOwnP _ hga rfl 19 rfl | exact hW.rdP _ hga rfl 20 rfl | exact hW.rdOwnP _ hga rfl 20 rfl | exact hW.rdP _ hga rfl 21 rfl | exact hW.rdOwnP _ hga rfl 21 rfl | exact hW.rdP _ hga rfl 22 rfl | exact hW.rdOwnP _ hga rfl 22 rfl | exact hW.rdP _ hga rfl 23 rfl | exact hW.rdOwnP _ hga rfl 23 rfl), trivial⟩ hb (by omega) (by decide))) ?_
  rintro v cs L ⟨a, rfl, _, rfl, rfl⟩
  rotate_left
  refine CaseB.mk (fun e1 => ?_) (fun e1 => ?_)
  refine CaseB.mk (fun _ => ?_) (fun h => by rw [e1] at h; cases h)
  refine AllSl.mk fun l2 => ?_
  refine stop_callP _ cl58 rfl rfl rfl rfl ⟨rfl, rfl⟩ rfl rfl (fun A w ga hga hW hblk => (num_c ga bi rb _ _ [7, 1, 2, 99] w hblk ⟨(by first | exact hW.rdP _ hga rfl 0 rfl | exact hW.rdOwnP _ hga rfl 0 rfl | exact hW.rdP _ hga rfl 1 rfl | exact hW.rdOwnP _ hga rfl 1 rfl | exact hW.rdP _ hga rfl 2 rfl | exact hW.rdOwnP _ hga rfl 2 rfl | exact hW.rdP _ hga rfl 3 rfl | exact hW.rdOwnP _ hga rfl 3 rfl | exact hW.rdP _ hga rfl 4 rfl | exact hW.rdOwnP _ hga rfl 4 rfl | exact hW.rdP _ hga rfl 5 rfl | exact hW.rdOwnP _ hga rfl 5 rfl | exact hW.rdP _ hga rfl 6 rfl | exact hW.rdOwnP _ hga rfl 6 rfl | exact hW.rdP _ hga rfl 7 rfl | exact hW.rdOwnP _ hga rfl 7 rfl | exact hW.rdP _ hga rfl 8 rfl | exact hW.rdOwnP _ hga rfl 8 rfl | exact hW.rdP _ hga rfl 9 rfl | exact hW.rdOwnP _ hga rfl 9 rfl | exact hW.rdP _ hga rfl 10 rfl | exact hW.rdOwnP _ hga rfl 10 rfl | exact hW.rdP _ hga rfl 11 rfl | exact hW.rdOwnP _ hga rfl 11 rfl | exact hW.rdP _ hga rfl 12 rfl | exact hW.rdOwnP _ hga rfl 12 rfl | exact hW.rdP _ hga rfl 13 rfl | exact hW.rdOwnP _ hga rfl 13 rfl | exact hW.rdP _ hga rfl 14 rfl | exact hW.rdOwnP _ hga rfl 14 rfl | exact hW.rdP _ hga rfl 15 rfl | exact hW.rdOwnP _ hga rfl 15 rfl | exact hW.rdP _ hga rfl 16 rfl | exact hW.rdOwnP _ hga rfl 16 rfl | exact hW.rdP _ hga rfl 17 rfl | exact hW.rdOwnP _ hga rfl 17 rfl | exact hW.rdP _ hga rfl 18 rfl | exact hW.rdOwnP _ hga rfl 18 rfl | exact hW.rdP _ hga rfl 19 rfl | exact hW.rdOwnP _ hga rfl 19 rfl | exact hW.rdP _ hga rfl 20 rfl | exact hW.rdOwnP _ hga rfl 20 rfl | exact hW.rdP _ hga rfl 21 rfl | exact hW.rdOwnP _ hga rfl 21 rfl | exact hW.rdP _ hga rfl 22 rfl | exact hW.rdOwnP _ hga rfl 22 rfl | exact hW.rdP _ hga rfl 23 rfl | exact hW.rdOwnP _ hga rfl 23 rfl), (by first | exact hW.rdP _ hga rfl 0 rfl | exact hW.rdOwnP _ hga rfl 0 rfl | exact hW.rdP _ hga rfl 1 rfl | exact hW.rdOwnP _ hga rfl 1 rfl | exact hW.rdP _ hga rfl 2 rfl | exact hW.rdOwnP _ hga rfl 2 rfl | exact hW.rdP _ hga rfl 3 rfl | exact hW.rdOwnP _ hga rfl 3 rfl | exact hW.rdP _ hga rfl 4 rfl | exact hW.rdOwnP _ hga rfl 4 rfl | exact hW.rdP _ hga rfl 5 rfl | exact hW.rdOwnP _ hga rfl 5 rfl | exact hW.rdP _ hga rfl 6 rfl | exact hW.rdOwnP _ hga rfl 6 rfl | exact hW.rdP _ hga rfl 7 rfl | exact hW.rdOwnP _ hga rfl 7 rfl | exact hW.rdP _ hga rfl 8 rfl | exact hW.rdOwnP _ hga rfl 8 rfl | exact hW.rdP _ hga rfl 9 rfl | exact hW.rdOwnP _ hga rfl 9 rfl | exact hW.rdP _ hga rfl 10 rfl | exact hW.rdOwnP _ hga rfl 10 rfl | exact hW.rdP _ hga rfl 11 rfl | exact hW.rdOwnP _ hga rfl 11 rfl | exact hW.rdP _ hga rfl 12 rfl | exact hW.rdOwnP _ hga rfl 12 rfl | exact hW.rdP _ hga rfl 13 rfl | exact hW.rdOwnP _ hga rfl 13 rfl | exact hW.rdP _ hga rfl 14 rfl | exact hW.rdOwnP _ hga rfl 14 rfl | exact hW.rdP _ hga rfl 15 rfl | exact hW.rdOwnP _ hga rfl 15 rfl | exact hW.rdP _ hga rfl 16 rfl | exact hW.rdOwnP _ hga rfl 16 rfl | exact hW.rdP _ hga rfl 17 rfl | exact hW.rdOwnP _ hga rfl 17 rfl | exact hW.rdP _ hga rfl 18 rfl | exact hW.rdOwnP _ hga rfl 18 rfl | exact hW.rdP _ hga rfl 19 rfl | exact hW.rdOwnP _ hga rfl 19 rfl | exact hW.rdP _ hga rfl 20 rfl | exact hW.rdOwnP _ hga rfl 20 rfl | exact hW.rdP _ hga rfl 21 rfl | exact hW.rdOwnP _ hga rfl 21 rfl | exact hW.rdP _ hga rfl 22 rfl | exact hW.rdOwnP _ hga rfl 22 rfl | exact hW.rdP _ hga rfl 23 rfl | exact hW.rdOwnP _ hga rfl 23 rfl), trivial⟩ hb (by omega) (by decide))) ?_
  rintro v cs L ⟨a, rfl, _, rfl, rfl⟩
  rotate_left
  refine CaseB.mk (fun e4 => ?_) (fun e4 => ?_)
  refine CaseB.mk (fun _ => ?_) (fun h => by rw [e4] at h; cases h)
  refine AllSl.mk fun l2 => ?_
  refine stop_callP _ cl58 rfl rfl rfl rfl ⟨rfl, rfl⟩ rfl rfl (fun A w ga hga hW hblk => (num_c ga bi rb _ _ [7, 1, 2, 99] w hblk ⟨(by first | exact hW.rdP _ hga rfl 0 rfl | exact hW.rdOwnP _ hga rfl 0 rfl | exact hW.rdP _ hga rfl 1 rfl | exact hW.rdOwnP _ hga rfl 1 rfl | exact hW.rdP _ hga rfl 2 rfl | exact hW.rdOwnP _ hga rfl 2 rfl | exact hW.rdP _ hga rfl 3 rfl | exact hW.rdOwnP _ hga rfl 3 rfl | exact hW.rdP _ hga rfl 4 rfl | exact hW.rdOwnP _ hga rfl 4 rfl | exact hW.rdP _ hga rfl 5 rfl | exact hW.rdOwnP _ hga rfl 5 rfl | exact hW.rdP _ hga rfl 6 rfl | exact hW.rdOwnP _ hga rfl 6 rfl | exact hW.rdP _ hga rfl 7 rfl | exact hW.rdOwnP _ hga rfl 7 rfl | exact hW.rdP _ hga rfl 8 rfl | exact hW.rdOwnP _ hga rfl 8 rfl | exact hW.rdP _ hga rfl 9 rfl | exact hW.rdOwnP _ hga rfl 9 rfl | exact hW.rdP _ hga rfl 10 rfl | exact hW.rdOwnP _ hga rfl 10 rfl | exact hW.rdP _ hga rfl 11 rfl | exact hW.rdOwnP _ hga rfl 11 rfl | exact hW.rdP _ hga rfl 12 rfl | exact hW.rdOwnP _ hga rfl 12 rfl | exact hW.rdP _ hga rfl 13 rfl | exact hW.rdOwnP _ hga rfl 13 rfl | exact hW.rdP _ hga rfl 14 rfl | exact hW.rdOwnP _ hga rfl 14 rfl | exact hW.rdP _ hga rfl 15 rfl | exact hW.rdOwnP _ hga rfl 15 rfl | exact hW.rdP _ hga rfl 16 rfl | exact hW.rdOwnP _ hga rfl 16 rfl | exact hW.rdP _ hga rfl 17 rfl | exact hW.rdOwnP _ hga rfl 17 rfl | exact hW.rdP _ hga rfl 18 rfl | exact hW.rdOwnP _ hga rfl 18 rfl | exact hW.rdP _ hga rfl 19 rfl | exact hW.rdOwnP _ hga rfl 19 rfl | exact hW.rdP _ hga rfl 20 rfl | exact hW.rdOwnP _ hga rfl 20 rfl | exact hW.rdP _ hga rfl 21 rfl | exact hW.rdOwnP _ hga rfl 21 rfl | exact hW.rdP _ hga rfl 22 rfl | exact hW.rdOwnP _ hga rfl 22 rfl | exact hW.rdP _ hga rfl 23 rfl | exact hW.rdOwnP _ hga rfl 23 rfl), (by first | exact hW.rdP _ hga rfl 0 rfl | exact hW.rdOwnP _ hga rfl 0 rfl | exact hW.rdP _ hga rfl 1 rfl | exact hW.rdOwnP _ hga rfl 1 rfl | exact hW.rdP _ hga rfl 2 rfl | exact hW.rdOwnP _ hga rfl 2 rfl | exact hW.rdP _ hga rfl 3 rfl | exact hW.rdOwnP _ hga rfl 3 rfl | exact hW.rdP _ hga rfl 4 rfl | exact hW.rdOwnP _ hga rfl 4 rfl | exact hW.rdP _ hga rfl 5 rfl | exact hW.rdOwnP _ hga rfl 5 rfl | exact hW.rdP _ hga rfl 6 rfl | exact hW.rdOwnP _ hga rfl 6 rfl | exact hW.rdP _ hga rfl 7 rfl | exact hW.rdOwnP _ hga rfl 7 rfl | exact hW.rdP _ hga rfl 8 rfl | exact hW.rdOwnP _ hga rfl 8 rfl | exact hW.rdP _ hga rfl 9 rfl | exact hW.rdOwnP _ hga rfl 9 rfl | exact hW.rdP _ hga rfl 10 rfl | exact hW.rdOwnP _ hga rfl 10 rfl | exact hW.rdP _ hga rfl 11 rfl | exact hW.rdOwnP _ hga rfl 11 rfl | exact hW.rdP _ hga rfl 12 rfl | exact hW.rdOwnP _ hga rfl 12 rfl | exact hW.rdP _ hga rfl 13 rfl | exact hW.rdOwnP _ hga rfl 13 rfl | exact hW.rdP _ hga rfl 14 rfl | exact hW.rdOwnP _ hga rfl 14 rfl | exact hW.rdP _ hga rfl 15 rfl | exact hW.rdOwnP _ hga rfl 15 rfl | exact hW.rdP _ hga rfl 16 rfl | exact hW.rdOwnP _ hga rfl 16 rfl | exact hW.rdP _ hga rfl 17 rfl | exact hW.rdOwnP _ hga rfl 17 rfl | exact hW.rdP _ hga rfl 18 rfl | exact hW.rdOwnP _ hga rfl 18 rfl | exact hW.rdP _ hga rfl 19 rfl | exact hW.rdOwnP _ hga rfl 19 rfl | exact hW.rdP _ hga rfl 20 rfl | exact hW.rdOwnP _ hga rfl 20 rfl | exact hW.rdP _ hga rfl 21 rfl | exact hW.rdOwnP _ hga rfl 21 rfl | exact hW.rdP _ hga rfl 22 rfl | exact hW.rdOwnP _ hga rfl 22 rfl | exact hW.rdP _ hga rfl 23 rfl | exact hW.rdOwnP _ hga rfl 23 rfl), trivial⟩ hb (by omega) (by decide))) ?_
  rintro v cs L ⟨a, rfl, _, rfl, rfl⟩
  rotate_left
  refine CaseB.mk (fun e8 => ?_) (fun e8 => ?_)
  refine AllSl.mk fun l2 => ?_
  refine stop_callP _ cl58 rfl rfl rfl rfl ⟨rfl, rfl⟩ rfl rfl (fun A w ga hga hW hblk => (num_c ga bi rb _ _ [7, 1, 2, 99] w hblk ⟨(by first | exact hW.rdP _ hga rfl 0 rfl | exact hW.rdOwnP _ hga rfl 0 rfl | exact hW.rdP _ hga rfl 1 rfl | exact hW.rdOwnP _ hga rfl 1 rfl | exact hW.rdP _ hga rfl 2 rfl | exact hW.rdOwnP _ hga rfl 2 rfl | exact hW.rdP _ hga rfl 3 rfl | exact hW.rdOwnP _ hga rfl 3 rfl | exact hW.rdP _ hga rfl 4 rfl | exact hW.rdOwnP _ hga rfl 4 rfl | exact hW.rdP _ hga rfl 5 rfl | exact hW.rdOwnP _ hga rfl 5 rfl | exact hW.rdP _ hga rfl 6 rfl | exact hW.rdOwnP _ hga rfl 6 rfl | exact hW.rdP _ hga rfl 7 rfl | exact hW.rdOwnP _ hga rfl 7 rfl | exact hW.rdP _ hga rfl 8 rfl | exact hW.rdOwnP _ hga rfl 8 rfl | exact hW.rdP _ hga rfl 9 rfl | exact hW.rdOwnP _ hga rfl 9 rfl | exact hW.rdP _ hga rfl 10 rfl | exact hW.rdOwnP _ hga rfl 10 rfl | exact hW.rdP _ hga rfl 11 rfl | exact hW.rdOwnP _ hga rfl 11 rfl | exact hW.rdP _ hga rfl 12 rfl | exact hW.rdOwnP _ hga rfl 12 rfl | exact hW.rdP _ hga rfl 13 rfl | exact hW.rdOwnP _ hga rfl 13 rfl | exact hW.rdP _ hga rfl 14 rfl | exact hW.rdOwnP _ hga rfl 14 rfl | exact hW.rdP _ hga rfl 15 rfl | exact hW.rdOwnP _ hga rfl 15 rfl | exact hW.rdP _ hga rfl 16 rfl | exact hW.rdOwnP _ hga rfl 16 rfl | exact hW.rdP _ hga rfl 17 rfl | exact hW.rdOwnP _ hga rfl 17 rfl | exact hW.rdP _ hga rfl 18 rfl | exact hW.rdOwnP _ hga rfl 18 rfl | exact hW.rdP _ hga rfl 19 rfl | exact hW.rdOwnP _ hga rfl 19 rfl | exact hW.rdP _ hga rfl 20 rfl | exact hW.rdOwnP _ hga rfl 20 rfl | exact hW.rdP _ hga rfl 21 rfl | exact hW.rdOwnP _ hga rfl 21 rfl | exact hW.rdP _ hga rfl 22 rfl | exact hW.rdOwnP _ hga rfl 22 rfl | exact hW.rdP _ hga rfl 23 rfl | exact hW.rdOwnP _ hga rfl 23 rfl), (by first | exact hW.rdP _ hga rfl 0 rfl | exact hW.rdOwnP _ hga rfl 0 rfl | exact hW.rdP _ hga rfl 1 rfl | exact hW.rdOwnP _ hga rfl 1 rfl | exact hW.rdP _ hga rfl 2 rfl | exact hW.rdOwnP _ hga rfl 2 rfl | exact hW.rdP _ hga rfl 3 rfl | exact hW.rdOwnP _ hga rfl 3 rfl | exact hW.rdP _ hga rfl 4 rfl | exact hW.rdOwnP _ hga rfl 4 rfl | exact hW.rdP _ hga rfl 5 rfl | exact hW.rdOwnP _ hga rfl 5 rfl | exact hW.rdP _ hga rfl 6 rfl | exact hW.rdOwnP _ hga rfl 6 rfl | exact hW.rdP _ hga rfl 7 rfl | exact hW.rdOwnP _ hga rfl 7 rfl | exact hW.rdP _ hga rfl 8 rfl | exact hW.rdOwnP _ hga rfl 8 rfl | exact hW.rdP _ hga rfl 9 rfl | exact hW.rdOwnP _ hga rfl 9 rfl | exact hW.rdP _ hga rfl 10 rfl | exact hW.rdOwnP _ hga rfl 10 rfl | exact hW.rdP _ hga rfl 11 rfl | exact hW.rdOwnP _ hga rfl 11 rfl | exact hW.rdP _ hga rfl 12 rfl | exact hW.rdOwnP _ hga rfl 12 rfl | exact hW.rdP _ hga rfl 13 rfl | exact hW.rdOwnP _ hga rfl 13 rfl | exact hW.rdP _ hga rfl 14 rfl | exact hW.rdOwnP _ hga rfl 14 rfl | exact hW.rdP _ hga rfl 15 rfl | exact hW.rdOwnP _ hga rfl 15 rfl | exact hW.rdP _ hga rfl 16 rfl | exact hW.rdOwnP _ hga rfl 16 rfl | exact hW.rdP _ hga rfl 17 rfl | exact hW.rdOwnP _ hga rfl 17 rfl | exact hW.rdP _ hga rfl 18 rfl | exact hW.rdOwnP _ hga rfl 18 rfl | exact hW.rdP _ hga rfl 19 rfl | exact hW.rdOwnP _ hga rfl 19 rfl | exact hW.rdP _ hga rfl 20 rfl | exact hW.rdOwnP _ hga rfl 20 rfl | exact hW.rdP _ hga rfl 21 rfl | exact hW.rdOwnP _ hga rfl 21 rfl | exact hW.rdP _ hga rfl 22 rfl | exact hW.rdOwnP _ hga rfl 22 rfl | exact hW.rdP _ hga rfl 23 rfl | exact hW.rdOwnP _ hga rfl 23 rfl), trivial⟩ hb (by omega) (by decide))) ?_
  rintro v cs L ⟨a, rfl, _, rfl, rfl⟩
  rotate_left
  · refine stop_call _ cl44 rfl rfl rfl rfl ⟨rfl, rfl⟩ (fun A w hW => (opValidS_c q ⟨k, (on : Int), 0⟩ w ⟨hW.get 2 rfl (.refl _), trivial⟩)) ?_
    rintro v L ⟨b1, rfl, hb1, rfl⟩
    refine CaseB.mk (fun g1 => ?_) (fun g1 => ?_)
    · refine stop_call _ cl44 rfl rfl rfl rfl ⟨rfl, rfl⟩ (fun A w hW => (opValidS_c q ⟨k, 0, 0⟩ w ⟨hW.get 2 rfl (.refl _), trivial⟩)) ?_
      rintro v L ⟨b2, rfl, hb2, rfl⟩
      refine CaseB.mk (fun g2 => ?_) (fun g2 => ?_)
      · refine stop_callP _ cl57 rfl rfl rfl rfl ⟨rfl, rfl⟩ rfl rfl (fun A w ga hga hW hblk => (pick_c ga bi rb _ _ w hblk ⟨(by first | exact hW.rdP _ hga rfl 0 rfl | exact hW.rdOwnP _ hga rfl 0 rfl | exact hW.rdP _ hga rfl 1 rfl | exact hW.rdOwnP _ hga rfl 1 rfl | exact hW.rdP _ hga rfl 2 rfl | exact hW.rdOwnP _ hga rfl 2 rfl | exact hW.rdP _ hga rfl 3 rfl | exact hW.rdOwnP _ hga rfl 3 rfl | exact hW.rdP _ hga rfl 4 rfl | exact hW.rdOwnP _ hga rfl 4 rfl | exact hW.rdP _ hga rfl 5 rfl | exact hW.rdOwnP _ hga rfl 5 rfl | exact hW.rdP _ hga rfl 6 rfl | exact hW.rdOwnP _ hga rfl 6 rfl | exact hW.rdP _ hga rfl 7 rfl | exact hW.rdOwnP _ hga rfl 7 rfl | exact hW.rdP _ hga rfl 8 rfl | exact hW.rdOwnP _ hga rfl 8 rfl | exact hW.rdP _ hga rfl 9 rfl | exact hW.rdOwnP _ hga rfl 9 rfl | exact hW.rdP _ hga rfl 10 rfl | exact hW.rdOwnP _ hga rfl 10 rfl | exact hW.rdP _ hga rfl 11 rfl | exact hW.rdOwnP _ hga rfl 11 rfl | exact hW.rdP _ hga rfl 12 rfl | exact hW.rdOwnP _ hga rfl 12 rfl | exact hW.rdP _ hga rfl 13 rfl | exact hW.rdOwnP _ hga rfl 13 rfl | exact hW.rdP _ hga rfl 14 rfl | exact hW.rdOwnP _ hga rfl 14 rfl | exact hW.rdP _ hga rfl 15 rfl | exact hW.rdOwnP _ hga rfl 15 rfl | exact hW.rdP _ hga rfl 16 rfl | exact hW.rdOwnP _ hga rfl 16 rfl | exact hW.rdP _ hga rfl 17 rfl | exact hW.rdOwnP _ hga rfl 17 rfl | exact hW.rdP _ hga rfl 18 rfl | exact hW.rdOwnP _ hga rfl 18 rfl | exact hW.rdP _ hga rfl 19 rfl | exact hW.rdOwnP _ hga rfl 19 rfl | exact hW.rdP _ hga rfl 20 rfl | exact hW.rdOwnP _ hga rfl 20 rfl | exact hW.rdP _ hga rfl 21 rfl | exact hW.rdOwnP _ hga rfl 21 rfl | exact hW.rdP _ hga rfl 22 rfl | exact hW.rdOwnP _ hga rfl 22 rfl | exact hW.rdP _ hga rfl 23 rfl | exact hW.rdOwnP _ hga rfl 23 rfl), trivial⟩ hb (by omega))) ?_
        rintro v cs L ⟨e, rfl, he, _, rfl, rfl⟩
        have he9 := he (by decide)
        exact retP [] ⟨⟨1, 0, (e : Int)⟩, _, rfl, (opOk1 rfl).2 ⟨rfl, by simp [isValue]; omega⟩, rfl, by omega, rfl⟩ rfl rfl trivial rfl trivial (fun _ => rfl)
      · exact retP [] ⟨⟨k, 0, 0⟩, _, rfl, hb2.1 (by simpa using g2), rfl, by omega, rfl⟩ rfl rfl trivial rfl trivial (fun _ => rfl)
    · have e1 : b1 = true := by simpa using g1
      refine stop_call _ cl44 rfl rfl rfl rfl ⟨rfl, rfl⟩ (fun A w hW => (opValidS_c q ⟨k, (on : Int), 0⟩ w ⟨hW.get 2 rfl (.refl _), trivial⟩)) ?_
      rintro v L ⟨b2, rfl, hb2, rfl⟩
      refine CaseB.mk (fun g2 => by rw [hb2.2 (hb1.1 e1)] at g2; cases g2) (fun _ => ?_)
      exact retP [] ⟨⟨k, (on : Int), 0⟩, _, rfl, hb1.1 e1, rfl, by omega, rfl⟩ rfl rfl trivial rfl trivial (fun _ => rfl)
  all_goals
    refine stop_call _ cl44 rfl rfl rfl rfl ⟨rfl, rfl⟩ (fun A w hW => (opValidS_c q ⟨k, (on : Int), a⟩ w ⟨hW.get 3 rfl (.refl _), trivial⟩)) ?_
    rintro v L ⟨b1, rfl, hb1, rfl⟩
    refine CaseB.mk (fun g1 => ?_) (fun g1 => ?_)
    · refine stop_call _ cl44 rfl rfl rfl rfl ⟨rfl, rfl⟩ (fun A w hW => (opValidS_c q ⟨k, 0, a⟩ w ⟨hW.get 3 rfl (.refl _), trivial⟩)) ?_
      rintro v L ⟨b2, rfl, hb2, rfl⟩
      refine CaseB.mk (fun g2 => ?_) (fun g2 => ?_)
      · refine stop_callP _ cl57 rfl rfl rfl rfl ⟨rfl, rfl⟩ rfl rfl (fun A w ga hga hW hblk => (pick_c ga bi rb _ _ w hblk ⟨(by first | exact hW.rdP _ hga rfl 0 rfl | exact hW.rdOwnP _ hga rfl 0 rfl | exact hW.rdP _ hga rfl 1 rfl | exact hW.rdOwnP _ hga rfl 1 rfl | exact hW.rdP _ hga rfl 2 rfl | exact hW.rdOwnP _ hga rfl 2 rfl | exact hW.rdP _ hga rfl 3 rfl | exact hW.rdOwnP _ hga rfl 3 rfl | exact hW.rdP _ hga rfl 4 rfl | exact hW.rdOwnP _ hga rfl 4 rfl | exact hW.rdP _ hga rfl 5 rfl | exact hW.rdOwnP _ hga rfl 5 rfl | exact hW.rdP _ hga rfl 6 rfl | exact hW.rdOwnP _ hga rfl 6 rfl | exact hW.rdP _ hga rfl 7 rfl | exact hW.rdOwnP _ hga rfl 7 rfl | exact hW.rdP _ hga rfl 8 rfl | exact hW.rdOwnP _ hga rfl 8 rfl | exact hW.rdP _ hga rfl 9 rfl | exact hW.rdOwnP _ hga rfl 9 rfl | exact hW.rdP _ hga rfl 10 rfl | exact hW.rdOwnP _ hga rfl 10 rfl | exact hW.rdP _ hga rfl 11 rfl | exact hW.rdOwnP _ hga rfl 11 rfl | exact hW.rdP _ hga rfl 12 rfl | exact hW.rdOwnP _ hga rfl 12 rfl | exact hW.rdP _ hga rfl 13 rfl | exact hW.rdOwnP _ hga rfl 13 rfl | exact hW.rdP _ hga rfl 14 rfl | exact hW.rdOwnP _ hga rfl 14 rfl | exact hW.rdP _ hga rfl 15 rfl | exact hW.rdOwnP _ hga rfl 15 rfl | exact hW.rdP _ hga rfl 16 rfl | exact hW.rdOwnP _ hga rfl 16 rfl | exact hW.rdP _ hga rfl 17 rfl | exact hW.rdOwnP _ hga rfl 17 rfl | exact hW.rdP _ hga rfl 18 rfl | exact hW.rdOwnP _ hga rfl 18 rfl | exact hW.rdP _ hga rfl 19 rfl | exact hW.rdOwnP _ hga rfl 19 rfl | exact hW.rdP _ hga rfl 20 rfl | exact hW.rdOwnP _ hga rfl 20 rfl | exact hW.rdP _ hga rfl 21 rfl | exact hW.rdOwnP _ hga rfl 21 rfl | exact hW.rdP _ hga rfl 22 rfl | exact hW.rdOwnP _ hga rfl 22 rfl | exact hW.rdP _ hga rfl 23 rfl | exact hW.rdOwnP _ hga rfl 23 rfl), trivial⟩ hb (by omega))) ?_
        rintro v cs L ⟨e, rfl, he, _, rfl, rfl⟩
        have he9 := he (by decide)
        exact retP [] ⟨⟨1, 0, (e : Int)⟩, _, rfl, (opOk1 rfl).2 ⟨rfl, by simp [isValue]; omega⟩, rfl, by omega, rfl⟩ rfl rfl trivial rfl trivial (fun _ => rfl)
      · exact retP [] ⟨⟨k, 0, a⟩, _, rfl, hb2.1 (by simpa using g2), rfl, by omega, rfl⟩ rfl rfl trivial rfl trivial (fun _ => rfl)
    · have e1 : b1 = true := by simpa using g1
      refine stop_call _ cl44 rfl rfl rfl rfl ⟨rfl, rfl⟩ (fun A w hW => (opValidS_c q ⟨k, (on : Int), a⟩ w ⟨hW.get 3 rfl (.refl _), trivial⟩)) ?_
      rintro v L ⟨b2, rfl, hb2, rfl⟩
      refine CaseB.mk (fun g2 => by rw [hb2.2 (hb1.1 e1)] at g2; cases g2) (fun _ => ?_)
      exact retP [] ⟨⟨k, (on : Int), a⟩, _, rfl, hb1.1 e1, rfl, by omega, rfl⟩ rfl rfl trivial rfl trivial (fun _ => rfl)

end Go.Proofs.Ytjkkoonennpceaa

namespace Go.Proofs.Ytjkkoonennpceaa

open Go Go.Sx Go.RowKit

/-- The rows of a program but that of its threads. -/
def progR (q : ProgH) : List Fct := [own q.h0 3 cInt 1 q.sems, own q.h1 3 cInt 1 q.groups, own q.h2 3 cInt 1 q.barriers, own q.h3 3 cInt 1 q.rooms] ++ q.threads.flatMap opSO

theorem progO_out (q : ProgH) : (progO q).Perm ([own q.h4 39 cOpSH 1 q.threads] ++ progR q) :=
  (List.Perm.of_eq (by simp [progO, threadsO, nestO] : progO q = [own q.h0 3 cInt 1 q.sems, own q.h1 3 cInt 1 q.groups, own q.h2 3 cInt 1 q.barriers, own q.h3 3 cInt 1 q.rooms] ++ own q.h4 39 cOpSH 1 q.threads :: q.threads.flatMap opSO)).trans List.perm_middle

theorem progO_in (q : ProgH) (x : OpSH) (z : Sl) : ([own z 39 cOpSH 1 (q.threads ++ [x])] ++ (progR q ++ [own x.q 75 cOp 3 x.m])).Perm (progO { q with threads := q.threads ++ [x], h4 := z }) := by
  refine List.Perm.trans ?_ (progO_out { q with threads := q.threads ++ [x], h4 := z }).symm
  exact .of_eq (by simp [progR, opSO])

set_option maxHeartbeats 16000000 in
set_option maxRecDepth 100000 in
theorem draw6_c (g : Nat) (bi : Sl) (rb : List UInt8) (p : Nat) (w : World) (hg : Blk w g 108 (rdrV bi rb p)) (h : AtP w g [slo bi cByte 1 rb]) (hb : rb.length ≤ 2000) (hp : p < 100000) :
    Calls Try.prog 42 #[.pointer (some ⟨g, 0, none⟩)] w (RetP w g 108 2 fun v cs L => ∃ (q : ProgH) (p2 : Nat), v = progV q ∧ ProgOk q.pure ∧ cs = rdrV bi rb p2 ∧ p2 ≤ p + 100 ∧ L = [fO (progO q)]) := by
  refine callsP1 Try.func42 rfl tabOk w _ rfl _ rfl _ 108 _ 2 rfl hg _ h ⟨rfl, rfl, trivial⟩ (by decide) ?_
  refine stop_callP _ cl57 rfl rfl rfl rfl ⟨rfl, rfl⟩ rfl rfl (fun A w ga hga hW hblk => (pick_c ga bi rb _ _ w hblk ⟨(by first | exact hW.rdP _ hga rfl 0 rfl | exact hW.rdOwnP _ hga rfl 0 rfl | exact hW.rdP _ hga rfl 1 rfl | exact hW.rdOwnP _ hga rfl 1 rfl | exact hW.rdP _ hga rfl 2 rfl | exact hW.rdOwnP _ hga rfl 2 rfl | exact hW.rdP _ hga rfl 3 rfl | exact hW.rdOwnP _ hga rfl 3 rfl | exact hW.rdP _ hga rfl 4 rfl | exact hW.rdOwnP _ hga rfl 4 rfl | exact hW.rdP _ hga rfl 5 rfl | exact hW.rdOwnP _ hga rfl 5 rfl | exact hW.rdP _ hga rfl 6 rfl | exact hW.rdOwnP _ hga rfl 6 rfl | exact hW.rdP _ hga rfl 7 rfl | exact hW.rdOwnP _ hga rfl 7 rfl | exact hW.rdP _ hga rfl 8 rfl | exact hW.rdOwnP _ hga rfl 8 rfl | exact hW.rdP _ hga rfl 9 rfl | exact hW.rdOwnP _ hga rfl 9 rfl | exact hW.rdP _ hga rfl 10 rfl | exact hW.rdOwnP _ hga rfl 10 rfl | exact hW.rdP _ hga rfl 11 rfl | exact hW.rdOwnP _ hga rfl 11 rfl | exact hW.rdP _ hga rfl 12 rfl | exact hW.rdOwnP _ hga rfl 12 rfl | exact hW.rdP _ hga rfl 13 rfl | exact hW.rdOwnP _ hga rfl 13 rfl | exact hW.rdP _ hga rfl 14 rfl | exact hW.rdOwnP _ hga rfl 14 rfl | exact hW.rdP _ hga rfl 15 rfl | exact hW.rdOwnP _ hga rfl 15 rfl | exact hW.rdP _ hga rfl 16 rfl | exact hW.rdOwnP _ hga rfl 16 rfl | exact hW.rdP _ hga rfl 17 rfl | exact hW.rdOwnP _ hga rfl 17 rfl | exact hW.rdP _ hga rfl 18 rfl | exact hW.rdOwnP _ hga rfl 18 rfl | exact hW.rdP _ hga rfl 19 rfl | exact hW.rdOwnP _ hga rfl 19 rfl | exact hW.rdP _ hga rfl 20 rfl | exact hW.rdOwnP _ hga rfl 20 rfl | exact hW.rdP _ hga rfl 21 rfl | exact hW.rdOwnP _ hga rfl 21 rfl | exact hW.rdP _ hga rfl 22 rfl | exact hW.rdOwnP _ hga rfl 22 rfl | exact hW.rdP _ hga rfl 23 rfl | exact hW.rdOwnP _ hga rfl 23 rfl), trivial⟩ hb (by omega))) ?_
  rintro v cs L ⟨k0, rfl, _, _, rfl, rfl⟩
  refine CaseB.mk (fun g0 => ?_) (fun g0 => ?_)
  · refine stop_call _ cl61 rfl rfl rfl rfl ⟨rfl, rfl⟩ (fun A w hW => (samples_c w)) ?_
    rintro v L ⟨y, rfl, rfl⟩
    refine stop_callP _ cl60 rfl rfl rfl rfl ⟨rfl, rfl⟩ rfl rfl (fun A w ga hga hW hblk => (of_c ga bi rb _ y samplesL w hblk ⟨(by first | exact hW.rdP _ hga rfl 0 rfl | exact hW.rdOwnP _ hga rfl 0 rfl | exact hW.rdP _ hga rfl 1 rfl | exact hW.rdOwnP _ hga rfl 1 rfl | exact hW.rdP _ hga rfl 2 rfl | exact hW.rdOwnP _ hga rfl 2 rfl | exact hW.rdP _ hga rfl 3 rfl | exact hW.rdOwnP _ hga rfl 3 rfl | exact hW.rdP _ hga rfl 4 rfl | exact hW.rdOwnP _ hga rfl 4 rfl | exact hW.rdP _ hga rfl 5 rfl | exact hW.rdOwnP _ hga rfl 5 rfl | exact hW.rdP _ hga rfl 6 rfl | exact hW.rdOwnP _ hga rfl 6 rfl | exact hW.rdP _ hga rfl 7 rfl | exact hW.rdOwnP _ hga rfl 7 rfl | exact hW.rdP _ hga rfl 8 rfl | exact hW.rdOwnP _ hga rfl 8 rfl | exact hW.rdP _ hga rfl 9 rfl | exact hW.rdOwnP _ hga rfl 9 rfl | exact hW.rdP _ hga rfl 10 rfl | exact hW.rdOwnP _ hga rfl 10 rfl | exact hW.rdP _ hga rfl 11 rfl | exact hW.rdOwnP _ hga rfl 11 rfl | exact hW.rdP _ hga rfl 12 rfl | exact hW.rdOwnP _ hga rfl 12 rfl | exact hW.rdP _ hga rfl 13 rfl | exact hW.rdOwnP _ hga rfl 13 rfl | exact hW.rdP _ hga rfl 14 rfl | exact hW.rdOwnP _ hga rfl 14 rfl | exact hW.rdP _ hga rfl 15 rfl | exact hW.rdOwnP _ hga rfl 15 rfl | exact hW.rdP _ hga rfl 16 rfl | exact hW.rdOwnP _ hga rfl 16 rfl | exact hW.rdP _ hga rfl 17 rfl | exact hW.rdOwnP _ hga rfl 17 rfl | exact hW.rdP _ hga rfl 18 rfl | exact hW.rdOwnP _ hga rfl 18 rfl | exact hW.rdP _ hga rfl 19 rfl | exact hW.rdOwnP _ hga rfl 19 rfl | exact hW.rdP _ hga rfl 20 rfl | exact hW.rdOwnP _ hga rfl 20 rfl | exact hW.rdP _ hga rfl 21 rfl | exact hW.rdOwnP _ hga rfl 21 rfl | exact hW.rdP _ hga rfl 22 rfl | exact hW.rdOwnP _ hga rfl 22 rfl | exact hW.rdP _ hga rfl 23 rfl | exact hW.rdOwnP _ hga rfl 23 rfl), (by first | exact hW.rdP _ hga rfl 0 rfl | exact hW.rdOwnP _ hga rfl 0 rfl | exact hW.rdP _ hga rfl 1 rfl | exact hW.rdOwnP _ hga rfl 1 rfl | exact hW.rdP _ hga rfl 2 rfl | exact hW.rdOwnP _ hga rfl 2 rfl | exact hW.rdP _ hga rfl 3 rfl | exact hW.rdOwnP _ hga rfl 3 rfl | exact hW.rdP _ hga rfl 4 rfl | exact hW.rdOwnP _ hga rfl 4 rfl | exact hW.rdP _ hga rfl 5 rfl | exact hW.rdOwnP _ hga rfl 5 rfl | exact hW.rdP _ hga rfl 6 rfl | exact hW.rdOwnP _ hga rfl 6 rfl | exact hW.rdP _ hga rfl 7 rfl | exact hW.rdOwnP _ hga rfl 7 rfl | exact hW.rdP _ hga rfl 8 rfl | exact hW.rdOwnP _ hga rfl 8 rfl | exact hW.rdP _ hga rfl 9 rfl | exact hW.rdOwnP _ hga rfl 9 rfl | exact hW.rdP _ hga rfl 10 rfl | exact hW.rdOwnP _ hga rfl 10 rfl | exact hW.rdP _ hga rfl 11 rfl | exact hW.rdOwnP _ hga rfl 11 rfl | exact hW.rdP _ hga rfl 12 rfl | exact hW.rdOwnP _ hga rfl 12 rfl | exact hW.rdP _ hga rfl 13 rfl | exact hW.rdOwnP _ hga rfl 13 rfl | exact hW.rdP _ hga rfl 14 rfl | exact hW.rdOwnP _ hga rfl 14 rfl | exact hW.rdP _ hga rfl 15 rfl | exact hW.rdOwnP _ hga rfl 15 rfl | exact hW.rdP _ hga rfl 16 rfl | exact hW.rdOwnP _ hga rfl 16 rfl | exact hW.rdP _ hga rfl 17 rfl | exact hW.rdOwnP _ hga rfl 17 rfl | exact hW.rdP _ hga rfl 18 rfl | exact hW.rdOwnP _ hga rfl 18 rfl | exact hW.rdP _ hga rfl 19 rfl | exact hW.rdOwnP _ hga rfl 19 rfl | exact hW.rdP _ hga rfl 20 rfl | exact hW.rdOwnP _ hga rfl 20 rfl | exact hW.rdP _ hga rfl 21 rfl | exact hW.rdOwnP _ hga rfl 21 rfl | exact hW.rdP _ hga rfl 22 rfl | exact hW.rdOwnP _ hga rfl 22 rfl | exact hW.rdP _ hga rfl 23 rfl | exact hW.rdOwnP _ hga rfl 23 rfl), trivial⟩ hb (by omega) (by decide))) ?_
    rintro v cs L ⟨x, rfl, hx, rfl, rfl⟩
    obtain ⟨hl, hok, hfm⟩ := samples_ok x hx
    refine stop_call _ cl59 rfl rfl rfl rfl ⟨rfl, rfl⟩ (fun A w hW => (parseProg_c x w (by omega) hok hfm)) ?_
    rintro v L ⟨q, rfl, hq, rfl⟩
    exact retP [0] ⟨q, _, rfl, by rw [hq]; exact hok, rfl, by omega, rfl⟩ rfl rfl ⟨.inl ⟨_, rfl, rfl⟩, trivial⟩ rfl ⟨rfl, trivial⟩ (fun _ => rfl)
  refine AllSl.mk fun l1 => ?_
  refine stop_callP _ cl58 rfl rfl rfl rfl ⟨rfl, rfl⟩ rfl rfl (fun A w ga hga hW hblk => (num_c ga bi rb _ _ [1, 2, 3] w hblk ⟨(by first | exact hW.rdP _ hga rfl 0 rfl | exact hW.rdOwnP _ hga rfl 0 rfl | exact hW.rdP _ hga rfl 1 rfl | exact hW.rdOwnP _ hga rfl 1 rfl | exact hW.rdP _ hga rfl 2 rfl | exact hW.rdOwnP _ hga rfl 2 rfl | exact hW.rdP _ hga rfl 3 rfl | exact hW.rdOwnP _ hga rfl 3 rfl | exact hW.rdP _ hga rfl 4 rfl | exact hW.rdOwnP _ hga rfl 4 rfl | exact hW.rdP _ hga rfl 5 rfl | exact hW.rdOwnP _ hga rfl 5 rfl | exact hW.rdP _ hga rfl 6 rfl | exact hW.rdOwnP _ hga rfl 6 rfl | exact hW.rdP _ hga rfl 7 rfl | exact hW.rdOwnP _ hga rfl 7 rfl | exact hW.rdP _ hga rfl 8 rfl | exact hW.rdOwnP _ hga rfl 8 rfl | exact hW.rdP _ hga rfl 9 rfl | exact hW.rdOwnP _ hga rfl 9 rfl | exact hW.rdP _ hga rfl 10 rfl | exact hW.rdOwnP _ hga rfl 10 rfl | exact hW.rdP _ hga rfl 11 rfl | exact hW.rdOwnP _ hga rfl 11 rfl | exact hW.rdP _ hga rfl 12 rfl | exact hW.rdOwnP _ hga rfl 12 rfl | exact hW.rdP _ hga rfl 13 rfl | exact hW.rdOwnP _ hga rfl 13 rfl | exact hW.rdP _ hga rfl 14 rfl | exact hW.rdOwnP _ hga rfl 14 rfl | exact hW.rdP _ hga rfl 15 rfl | exact hW.rdOwnP _ hga rfl 15 rfl | exact hW.rdP _ hga rfl 16 rfl | exact hW.rdOwnP _ hga rfl 16 rfl | exact hW.rdP _ hga rfl 17 rfl | exact hW.rdOwnP _ hga rfl 17 rfl | exact hW.rdP _ hga rfl 18 rfl | exact hW.rdOwnP _ hga rfl 18 rfl | exact hW.rdP _ hga rfl 19 rfl | exact hW.rdOwnP _ hga rfl 19 rfl | exact hW.rdP _ hga rfl 20 rfl | exact hW.rdOwnP _ hga rfl 20 rfl | exact hW.rdP _ hga rfl 21 rfl | exact hW.rdOwnP _ hga rfl 21 rfl | exact hW.rdP _ hga rfl 22 rfl | exact hW.rdOwnP _ hga rfl 22 rfl | exact hW.rdP _ hga rfl 23 rfl | exact hW.rdOwnP _ hga rfl 23 rfl), (by first | exact hW.rdP _ hga rfl 0 rfl | exact hW.rdOwnP _ hga rfl 0 rfl | exact hW.rdP _ hga rfl 1 rfl | exact hW.rdOwnP _ hga rfl 1 rfl | exact hW.rdP _ hga rfl 2 rfl | exact hW.rdOwnP _ hga rfl 2 rfl | exact hW.rdP _ hga rfl 3 rfl | exact hW.rdOwnP _ hga rfl 3 rfl | exact hW.rdP _ hga rfl 4 rfl | exact hW.rdOwnP _ hga rfl 4 rfl | exact hW.rdP _ hga rfl 5 rfl | exact hW.rdOwnP _ hga rfl 5 rfl | exact hW.rdP _ hga rfl 6 rfl | exact hW.rdOwnP _ hga rfl 6 rfl | exact hW.rdP _ hga rfl 7 rfl | exact hW.rdOwnP _ hga rfl 7 rfl | exact hW.rdP _ hga rfl 8 rfl | exact hW.rdOwnP _ hga rfl 8 rfl | exact hW.rdP _ hga rfl 9 rfl | exact hW.rdOwnP _ hga rfl 9 rfl | exact hW.rdP _ hga rfl 10 rfl | exact hW.rdOwnP _ hga rfl 10 rfl | exact hW.rdP _ hga rfl 11 rfl | exact hW.rdOwnP _ hga rfl 11 rfl | exact hW.rdP _ hga rfl 12 rfl | exact hW.rdOwnP _ hga rfl 12 rfl | exact hW.rdP _ hga rfl 13 rfl | exact hW.rdOwnP _ hga rfl 13 rfl | exact hW.rdP _ hga rfl 14 rfl | exact hW.rdOwnP _ hga rfl 14 rfl | exact hW.rdP _ hga rfl 15 rfl | exact hW.rdOwnP _ hga rfl 15 rfl | exact hW.rdP _ hga rfl 16 rfl | exact hW.rdOwnP _ hga rfl 16 rfl | exact hW.rdP _ hga rfl 17 rfl | exact hW.rdOwnP _ hga rfl 17 rfl | exact hW.rdP _ hga rfl 18 rfl | exact hW.rdOwnP _ hga rfl 18 rfl | exact hW.rdP _ hga rfl 19 rfl | exact hW.rdOwnP _ hga rfl 19 rfl | exact hW.rdP _ hga rfl 20 rfl | exact hW.rdOwnP _ hga rfl 20 rfl | exact hW.rdP _ hga rfl 21 rfl | exact hW.rdOwnP _ hga rfl 21 rfl | exact hW.rdP _ hga rfl 22 rfl | exact hW.rdOwnP _ hga rfl 22 rfl | exact hW.rdP _ hga rfl 23 rfl | exact hW.rdOwnP _ hga rfl 23 rfl), trivial⟩ hb (by omega) (by decide))) ?_
  rintro v cs L ⟨x0, rfl, hx0, rfl, rfl⟩
  refine AllSl.mk fun a0 => ?_
  refine AllSl.mk fun l2 => ?_
  refine stop_callP _ cl58 rfl rfl rfl rfl ⟨rfl, rfl⟩ rfl rfl (fun A w ga hga hW hblk => (num_c ga bi rb _ _ [1, 2, 0] w hblk ⟨(by first | exact hW.rdP _ hga rfl 0 rfl | exact hW.rdOwnP _ hga rfl 0 rfl | exact hW.rdP _ hga rfl 1 rfl | exact hW.rdOwnP _ hga rfl 1 rfl | exact hW.rdP _ hga rfl 2 rfl | exact hW.rdOwnP _ hga rfl 2 rfl | exact hW.rdP _ hga rfl 3 rfl | exact hW.rdOwnP _ hga rfl 3 rfl | exact hW.rdP _ hga rfl 4 rfl | exact hW.rdOwnP _ hga rfl 4 rfl | exact hW.rdP _ hga rfl 5 rfl | exact hW.rdOwnP _ hga rfl 5 rfl | exact hW.rdP _ hga rfl 6 rfl | exact hW.rdOwnP _ hga rfl 6 rfl | exact hW.rdP _ hga rfl 7 rfl | exact hW.rdOwnP _ hga rfl 7 rfl | exact hW.rdP _ hga rfl 8 rfl | exact hW.rdOwnP _ hga rfl 8 rfl | exact hW.rdP _ hga rfl 9 rfl | exact hW.rdOwnP _ hga rfl 9 rfl | exact hW.rdP _ hga rfl 10 rfl | exact hW.rdOwnP _ hga rfl 10 rfl | exact hW.rdP _ hga rfl 11 rfl | exact hW.rdOwnP _ hga rfl 11 rfl | exact hW.rdP _ hga rfl 12 rfl | exact hW.rdOwnP _ hga rfl 12 rfl | exact hW.rdP _ hga rfl 13 rfl | exact hW.rdOwnP _ hga rfl 13 rfl | exact hW.rdP _ hga rfl 14 rfl | exact hW.rdOwnP _ hga rfl 14 rfl | exact hW.rdP _ hga rfl 15 rfl | exact hW.rdOwnP _ hga rfl 15 rfl | exact hW.rdP _ hga rfl 16 rfl | exact hW.rdOwnP _ hga rfl 16 rfl | exact hW.rdP _ hga rfl 17 rfl | exact hW.rdOwnP _ hga rfl 17 rfl | exact hW.rdP _ hga rfl 18 rfl | exact hW.rdOwnP _ hga rfl 18 rfl | exact hW.rdP _ hga rfl 19 rfl | exact hW.rdOwnP _ hga rfl 19 rfl | exact hW.rdP _ hga rfl 20 rfl | exact hW.rdOwnP _ hga rfl 20 rfl | exact hW.rdP _ hga rfl 21 rfl | exact hW.rdOwnP _ hga rfl 21 rfl | exact hW.rdP _ hga rfl 22 rfl | exact hW.rdOwnP _ hga rfl 22 rfl | exact hW.rdP _ hga rfl 23 rfl | exact hW.rdOwnP _ hga rfl 23 rfl), (by first | exact hW.rdP _ hga rfl 0 rfl | exact hW.rdOwnP _ hga rfl 0 rfl | exact hW.rdP _ hga rfl 1 rfl | exact hW.rdOwnP _ hga rfl 1 rfl | exact hW.rdP _ hga rfl 2 rfl | exact hW.rdOwnP _ hga rfl 2 rfl | exact hW.rdP _ hga rfl 3 rfl | exact hW.rdOwnP _ hga rfl 3 rfl | exact hW.rdP _ hga rfl 4 rfl | exact hW.rdOwnP _ hga rfl 4 rfl | exact hW.rdP _ hga rfl 5 rfl | exact hW.rdOwnP _ hga rfl 5 rfl | exact hW.rdP _ hga rfl 6 rfl | exact hW.rdOwnP _ hga rfl 6 rfl | exact hW.rdP _ hga rfl 7 rfl | exact hW.rdOwnP _ hga rfl 7 rfl | exact hW.rdP _ hga rfl 8 rfl | exact hW.rdOwnP _ hga rfl 8 rfl | exact hW.rdP _ hga rfl 9 rfl | exact hW.rdOwnP _ hga rfl 9 rfl | exact hW.rdP _ hga rfl 10 rfl | exact hW.rdOwnP _ hga rfl 10 rfl | exact hW.rdP _ hga rfl 11 rfl | exact hW.rdOwnP _ hga rfl 11 rfl | exact hW.rdP _ hga rfl 12 rfl | exact hW.rdOwnP _ hga rfl 12 rfl | exact hW.rdP _ hga rfl 13 rfl | exact hW.rdOwnP _ hga rfl 13 rfl | exact hW.rdP _ hga rfl 14 rfl | exact hW.rdOwnP _ hga rfl 14 rfl | exact hW.rdP _ hga rfl 15 rfl | exact hW.rdOwnP _ hga rfl 15 rfl | exact hW.rdP _ hga rfl 16 rfl | exact hW.rdOwnP _ hga rfl 16 rfl | exact hW.rdP _ hga rfl 17 rfl | exact hW.rdOwnP _ hga rfl 17 rfl | exact hW.rdP _ hga rfl 18 rfl | exact hW.rdOwnP _ hga rfl 18 rfl | exact hW.rdP _ hga rfl 19 rfl | exact hW.rdOwnP _ hga rfl 19 rfl | exact hW.rdP _ hga rfl 20 rfl | exact hW.rdOwnP _ hga rfl 20 rfl | exact hW.rdP _ hga rfl 21 rfl | exact hW.rdOwnP _ hga rfl 21 rfl | exact hW.rdP _ hga rfl 22 rfl | exact hW.rdOwnP _ hga rfl 22 rfl | exact hW.rdP _ hga rfl 23 rfl | exact hW.rdOwnP _ hga rfl 23 rfl), trivial⟩ hb (by omega) (by decide))) ?_
  rintro v cs L ⟨x1, rfl, hx1, rfl, rfl⟩
  refine AllSl.mk fun a1 => ?_
  refine AllSl.mk fun a2 => ?_
  refine AllSl.mk fun l3 => ?_
  refine stop_callP _ cl58 rfl rfl rfl rfl ⟨rfl, rfl⟩ rfl rfl (fun A w ga hga hW hblk => (num_c ga bi rb _ _ [1, 0, 2] w hblk ⟨(by first | exact hW.rdP _ hga rfl 0 rfl | exact hW.rdOwnP _ hga rfl 0 rfl | exact hW.rdP _ hga rfl 1 rfl | exact hW.rdOwnP _ hga rfl 1 rfl | exact hW.rdP _ hga rfl 2 rfl | exact hW.rdOwnP _ hga rfl 2 rfl | exact hW.rdP _ hga rfl 3 rfl | exact hW.rdOwnP _ hga rfl 3 rfl | exact hW.rdP _ hga rfl 4 rfl | exact hW.rdOwnP _ hga rfl 4 rfl | exact hW.rdP _ hga rfl 5 rfl | exact hW.rdOwnP _ hga rfl 5 rfl | exact hW.rdP _ hga rfl 6 rfl | exact hW.rdOwnP _ hga rfl 6 rfl | exact hW.rdP _ hga rfl 7 rfl | exact hW.rdOwnP _ hga rfl 7 rfl | exact hW.rdP _ hga rfl 8 rfl | exact hW.rdOwnP _ hga rfl 8 rfl | exact hW.rdP _ hga rfl 9 rfl | exact hW.rdOwnP _ hga rfl 9 rfl | exact hW.rdP _ hga rfl 10 rfl | exact hW.rdOwnP _ hga rfl 10 rfl | exact hW.rdP _ hga rfl 11 rfl | exact hW.rdOwnP _ hga rfl 11 rfl | exact hW.rdP _ hga rfl 12 rfl | exact hW.rdOwnP _ hga rfl 12 rfl | exact hW.rdP _ hga rfl 13 rfl | exact hW.rdOwnP _ hga rfl 13 rfl | exact hW.rdP _ hga rfl 14 rfl | exact hW.rdOwnP _ hga rfl 14 rfl | exact hW.rdP _ hga rfl 15 rfl | exact hW.rdOwnP _ hga rfl 15 rfl | exact hW.rdP _ hga rfl 16 rfl | exact hW.rdOwnP _ hga rfl 16 rfl | exact hW.rdP _ hga rfl 17 rfl | exact hW.rdOwnP _ hga rfl 17 rfl | exact hW.rdP _ hga rfl 18 rfl | exact hW.rdOwnP _ hga rfl 18 rfl | exact hW.rdP _ hga rfl 19 rfl | exact hW.rdOwnP _ hga rfl 19 rfl | exact hW.rdP _ hga rfl 20 rfl | exact hW.rdOwnP _ hga rfl 20 rfl | exact hW.rdP _ hga rfl 21 rfl | exact hW.rdOwnP _ hga rfl 21 rfl | exact hW.rdP _ hga rfl 22 rfl | exact hW.rdOwnP _ hga rfl 22 rfl | exact hW.rdP _ hga rfl 23 rfl | exact hW.rdOwnP _ hga rfl 23 rfl), (by first | exact hW.rdP _ hga rfl 0 rfl | exact hW.rdOwnP _ hga rfl 0 rfl | exact hW.rdP _ hga rfl 1 rfl | exact hW.rdOwnP _ hga rfl 1 rfl | exact hW.rdP _ hga rfl 2 rfl | exact hW.rdOwnP _ hga rfl 2 rfl | exact hW.rdP _ hga rfl 3 rfl | exact hW.rdOwnP _ hga rfl 3 rfl | exact hW.rdP _ hga rfl 4 rfl | exact hW.rdOwnP _ hga rfl 4 rfl | exact hW.rdP _ hga rfl 5 rfl | exact hW.rdOwnP _ hga rfl 5 rfl | exact hW.rdP _ hga rfl 6 rfl | exact hW.rdOwnP _ hga rfl 6 rfl | exact hW.rdP _ hga rfl 7 rfl | exact hW.rdOwnP _ hga rfl 7 rfl | exact hW.rdP _ hga rfl 8 rfl | exact hW.rdOwnP _ hga rfl 8 rfl | exact hW.rdP _ hga rfl 9 rfl | exact hW.rdOwnP _ hga rfl 9 rfl | exact hW.rdP _ hga rfl 10 rfl | exact hW.rdOwnP _ hga rfl 10 rfl | exact hW.rdP _ hga rfl 11 rfl | exact hW.rdOwnP _ hga rfl 11 rfl | exact hW.rdP _ hga rfl 12 rfl | exact hW.rdOwnP _ hga rfl 12 rfl | exact hW.rdP _ hga rfl 13 rfl | exact hW.rdOwnP _ hga rfl 13 rfl | exact hW.rdP _ hga rfl 14 rfl | exact hW.rdOwnP _ hga rfl 14 rfl | exact hW.rdP _ hga rfl 15 rfl | exact hW.rdOwnP _ hga rfl 15 rfl | exact hW.rdP _ hga rfl 16 rfl | exact hW.rdOwnP _ hga rfl 16 rfl | exact hW.rdP _ hga rfl 17 rfl | exact hW.rdOwnP _ hga rfl 17 rfl | exact hW.rdP _ hga rfl 18 rfl | exact hW.rdOwnP _ hga rfl 18 rfl | exact hW.rdP _ hga rfl 19 rfl | exact hW.rdOwnP _ hga rfl 19 rfl | exact hW.rdP _ hga rfl 20 rfl | exact hW.rdOwnP _ hga rfl 20 rfl | exact hW.rdP _ hga rfl 21 rfl | exact hW.rdOwnP _ hga rfl 21 rfl | exact hW.rdP _ hga rfl 22 rfl | exact hW.rdOwnP _ hga rfl 22 rfl | exact hW.rdP _ hga rfl 23 rfl | exact hW.rdOwnP _ hga rfl 23 rfl), trivial⟩ hb (by omega) (by decide))) ?_
  rintro v cs L ⟨x2, rfl, hx2, rfl, rfl⟩
  refine AllSl.mk fun a3 => ?_
  refine stop_callP _ cl57 rfl rfl rfl rfl ⟨rfl, rfl⟩ rfl rfl (fun A w ga hga hW hblk => (pick_c ga bi rb _ _ w hblk ⟨(by first | exact hW.rdP _ hga rfl 0 rfl | exact hW.rdOwnP _ hga rfl 0 rfl | exact hW.rdP _ hga rfl 1 rfl | exact hW.rdOwnP _ hga rfl 1 rfl | exact hW.rdP _ hga rfl 2 rfl | exact hW.rdOwnP _ hga rfl 2 rfl | exact hW.rdP _ hga rfl 3 rfl | exact hW.rdOwnP _ hga rfl 3 rfl | exact hW.rdP _ hga rfl 4 rfl | exact hW.rdOwnP _ hga rfl 4 rfl | exact hW.rdP _ hga rfl 5 rfl | exact hW.rdOwnP _ hga rfl 5 rfl | exact hW.rdP _ hga rfl 6 rfl | exact hW.rdOwnP _ hga rfl 6 rfl | exact hW.rdP _ hga rfl 7 rfl | exact hW.rdOwnP _ hga rfl 7 rfl | exact hW.rdP _ hga rfl 8 rfl | exact hW.rdOwnP _ hga rfl 8 rfl | exact hW.rdP _ hga rfl 9 rfl | exact hW.rdOwnP _ hga rfl 9 rfl | exact hW.rdP _ hga rfl 10 rfl | exact hW.rdOwnP _ hga rfl 10 rfl | exact hW.rdP _ hga rfl 11 rfl | exact hW.rdOwnP _ hga rfl 11 rfl | exact hW.rdP _ hga rfl 12 rfl | exact hW.rdOwnP _ hga rfl 12 rfl | exact hW.rdP _ hga rfl 13 rfl | exact hW.rdOwnP _ hga rfl 13 rfl | exact hW.rdP _ hga rfl 14 rfl | exact hW.rdOwnP _ hga rfl 14 rfl | exact hW.rdP _ hga rfl 15 rfl | exact hW.rdOwnP _ hga rfl 15 rfl | exact hW.rdP _ hga rfl 16 rfl | exact hW.rdOwnP _ hga rfl 16 rfl | exact hW.rdP _ hga rfl 17 rfl | exact hW.rdOwnP _ hga rfl 17 rfl | exact hW.rdP _ hga rfl 18 rfl | exact hW.rdOwnP _ hga rfl 18 rfl | exact hW.rdP _ hga rfl 19 rfl | exact hW.rdOwnP _ hga rfl 19 rfl | exact hW.rdP _ hga rfl 20 rfl | exact hW.rdOwnP _ hga rfl 20 rfl | exact hW.rdP _ hga rfl 21 rfl | exact hW.rdOwnP _ hga rfl 21 rfl | exact hW.rdP _ hga rfl 22 rfl | exact hW.rdOwnP _ hga rfl 22 rfl | exact hW.rdP _ hga rfl 23 rfl | exact hW.rdOwnP _ hga rfl 23 rfl), trivial⟩ hb (by omega))) ?_
  rintro v cs L ⟨k1, rfl, hk1, _, rfl, rfl⟩
  have hk2 := hk1 (by decide)
  have hn0 : IntKind.i64.wrap (2 + (k1 : Int)) = ((2 + k1 : Nat) : Int) := by rw [wrap_nn] <;> omega
  have ok0 : ProgOk (Prog.mk [x0, 1] [x1] [2] [x2] [[]]) := by
    simp only [List.mem_cons, List.not_mem_nil, or_false] at hx0 hx1 hx2
    refine ⟨⟨by simp, fun x hx => ?_⟩, ⟨by simp, fun x hx => ?_⟩, ⟨by simp, fun x hx => ?_⟩, ⟨by simp, fun x hx => ?_⟩, by simp, by simp, fun t ht => ?_⟩
    · simp at hx; omega
    · simp at hx; omega
    · simp at hx; omega
    · simp at hx; omega
    · simp at ht; subst ht; exact ⟨by simp, fun o ho => by cases ho⟩
  clear hx0 hx1 hx2
  refine LoopW.mk ⟨{ u : Nat × ProgH × Nat // u.1 + u.2.1.threads.length = 2 + k1 ∧ (∀ t ∈ u.2.1.threads, t.m.length ≤ 8 ∧ ∀ o ∈ t.m, OpOk (Prog.mk [x0, 1] [x1] [2] [x2] [[]]) o) ∧ (u.2.1.sems = [x0, 1] ∧ u.2.1.groups = [x1] ∧ u.2.1.barriers = [2] ∧ u.2.1.rooms = [x2]) ∧ u.2.2 ≤ p + 5 + 20 * u.2.1.threads.length },
    fun u => .mk [(0, .p 0 0), (2, .p 1 0), (5, .p 2 0), (6, .v (.int .i64 (u.1.1 : Int)))] 3 0 [(2, 26, 5), (1, 26, 5), (0, 108, 2)] [((0, 0), .v (bi.val rb.length)), ((0, 1), .v (.int .i64 (u.1.2.2 : Int))), ((2, 0), .v (u.1.2.1.h0.val u.1.2.1.sems.length)), ((2, 1), .v (u.1.2.1.h1.val u.1.2.1.groups.length)), ((2, 2), .v (u.1.2.1.h2.val u.1.2.1.barriers.length)), ((2, 3), .v (u.1.2.1.h3.val u.1.2.1.rooms.length)), ((2, 4), .v (u.1.2.1.h4.val u.1.2.1.threads.length))] [fO (progO u.1.2.1), slo bi cByte 1 rb],
    fun u => u.1.1, ⟨(2 + k1, ⟨[x0, 1], [x1], [2], [x2], [], a0, a1, a2, a3, ⟨none, 0⟩⟩, p + 5), rfl, fun t ht => (by cases ht), ⟨rfl, rfl, rfl, rfl⟩, Nat.le_refl _⟩, ?_, ?_⟩
  · refine weak_shift (.joinO [5, 3, 2, 0, 90] (Gs := [[_], [_], [_], [_], [own ⟨none, 0⟩ 39 cOpSH 1 ([] : List OpSH)]]) ⟨.inl ⟨_, rfl, .own⟩, .inl ⟨_, rfl, .own⟩, .inl ⟨_, rfl, .own⟩, .inl ⟨_, rfl, .own⟩, .inr ⟨Nat.le_of_ble_eq_true rfl, fun g hg => by simp only [List.mem_singleton] at hg; subst hg; exact ⟨rfl, rfl, rfl, rfl⟩⟩, trivial⟩ rfl (G := progO ⟨[x0, 1], [x1], [2], [x2], [], a0, a1, a2, a3, ⟨none, 0⟩⟩) (.of_eq rfl)) ?_
    refine weak_mk [0, 4] ?_ ?_ ?_ ?_ ?_ rfl rfl
    · repeat (first | exact trivial | refine ⟨⟨_, rfl, (by first | exact .of rfl | exact .lit rfl | exact .of (by first | ((exact congrArg (fun z => SV.v (Value.int .i64 z)) hn0))) | exact .lit (by first | ((exact congrArg (fun z => SV.v (Value.int .i64 z)) hn0)))), (by first | exact trivial | exact Nat.le_of_ble_eq_true rfl | exact small1 rfl)⟩, ?_⟩)
    · repeat (first | exact trivial | refine ⟨⟨(by first | exact .head _ | exact .tail _ (.head _) | exact .tail _ (.tail _ (.head _)) | exact .tail _ (.tail _ (.tail _ (.head _))) | exact .tail _ (.tail _ (.tail _ (.tail _ (.head _)))) | exact .tail _ (.tail _ (.tail _ (.tail _ (.tail _ (.head _))))) | exact .tail _ (.tail _ (.tail _ (.tail _ (.tail _ (.tail _ (.head _)))))) | exact .tail _ (.tail _ (.tail _ (.tail _ (.tail _ (.tail _ (.tail _ (.head _))))))) | exact .tail _ (.tail _ (.tail _ (.tail _ (.tail _ (.tail _ (.tail _ (.tail _ (.head _)))))))) | exact .tail _ (.tail _ (.tail _ (.tail _ (.tail _ (.tail _ (.tail _ (.tail _ (.tail _ (.head _)))))))))), Nat.le_of_ble_eq_true rfl⟩, ?_⟩)
    · repeat (first | exact trivial | refine ⟨⟨_, rfl, (by first | exact .of rfl | exact .lit rfl | exact .of (by first | ((exact congrArg (fun z => SV.v (Value.int .i64 z)) hn0))) | exact .lit (by first | ((exact congrArg (fun z => SV.v (Value.int .i64 z)) hn0)))), (by first | exact trivial | exact Nat.le_of_ble_eq_true rfl | exact small1 rfl)⟩, ?_⟩)
    · repeat (first | exact trivial | refine ⟨⟨_, rfl⟩, ?_⟩)
    · repeat (first | exact trivial | refine ⟨.inl ⟨_, rfl, (by first | rfl | ((exact congrArg (fun z => SV.v (Value.int .i64 z)) hn0)))⟩, ?_⟩ | refine ⟨.inr ⟨Nat.le_of_ble_eq_true rfl, rfl, rfl, rfl, rfl⟩, ?_⟩)
  rintro ⟨⟨i, q, p1⟩, i1, i2, i3, i4⟩
  simp only at i1 i2 i3 i4 ⊢
  refine CaseB.mk (fun gi => ?_) (fun gi => ?_)
  · have hi : 0 < i := by have := of_decide_eq_true gi; omega
    have hwi : IntKind.i64.wrap ((i : Int) - 1) = ((i - 1 : Nat) : Int) := by rw [wrap_nn] <;> omega
    refine AllSl.mk fun z0 => ?_
    refine AllSl.mk fun l4 => ?_
    refine stop_callP _ cl58 rfl rfl rfl rfl ⟨rfl, rfl⟩ rfl rfl (fun A w ga hga hW hblk => (num_c ga bi rb _ _ [2, 3, 1, 4, 0] w hblk ⟨(by first | exact hW.rdP _ hga rfl 0 rfl | exact hW.rdOwnP _ hga rfl 0 rfl | exact hW.rdP _ hga rfl 1 rfl | exact hW.rdOwnP _ hga rfl 1 rfl | exact hW.rdP _ hga rfl 2 rfl | exact hW.rdOwnP _ hga rfl 2 rfl | exact hW.rdP _ hga rfl 3 rfl | exact hW.rdOwnP _ hga rfl 3 rfl | exact hW.rdP _ hga rfl 4 rfl | exact hW.rdOwnP _ hga rfl 4 rfl | exact hW.rdP _ hga rfl 5 rfl | exact hW.rdOwnP _ hga rfl 5 rfl | exact hW.rdP _ hga rfl 6 rfl | exact hW.rdOwnP _ hga rfl 6 rfl | exact hW.rdP _ hga rfl 7 rfl | exact hW.rdOwnP _ hga rfl 7 rfl | exact hW.rdP _ hga rfl 8 rfl | exact hW.rdOwnP _ hga rfl 8 rfl | exact hW.rdP _ hga rfl 9 rfl | exact hW.rdOwnP _ hga rfl 9 rfl | exact hW.rdP _ hga rfl 10 rfl | exact hW.rdOwnP _ hga rfl 10 rfl | exact hW.rdP _ hga rfl 11 rfl | exact hW.rdOwnP _ hga rfl 11 rfl | exact hW.rdP _ hga rfl 12 rfl | exact hW.rdOwnP _ hga rfl 12 rfl | exact hW.rdP _ hga rfl 13 rfl | exact hW.rdOwnP _ hga rfl 13 rfl | exact hW.rdP _ hga rfl 14 rfl | exact hW.rdOwnP _ hga rfl 14 rfl | exact hW.rdP _ hga rfl 15 rfl | exact hW.rdOwnP _ hga rfl 15 rfl | exact hW.rdP _ hga rfl 16 rfl | exact hW.rdOwnP _ hga rfl 16 rfl | exact hW.rdP _ hga rfl 17 rfl | exact hW.rdOwnP _ hga rfl 17 rfl | exact hW.rdP _ hga rfl 18 rfl | exact hW.rdOwnP _ hga rfl 18 rfl | exact hW.rdP _ hga rfl 19 rfl | exact hW.rdOwnP _ hga rfl 19 rfl | exact hW.rdP _ hga rfl 20 rfl | exact hW.rdOwnP _ hga rfl 20 rfl | exact hW.rdP _ hga rfl 21 rfl | exact hW.rdOwnP _ hga rfl 21 rfl | exact hW.rdP _ hga rfl 22 rfl | exact hW.rdOwnP _ hga rfl 22 rfl | exact hW.rdP _ hga rfl 23 rfl | exact hW.rdOwnP _ hga rfl 23 rfl), (by first | exact hW.rdP _ hga rfl 0 rfl | exact hW.rdOwnP _ hga rfl 0 rfl | exact hW.rdP _ hga rfl 1 rfl | exact hW.rdOwnP _ hga rfl 1 rfl | exact hW.rdP _ hga rfl 2 rfl | exact hW.rdOwnP _ hga rfl 2 rfl | exact hW.rdP _ hga rfl 3 rfl | exact hW.rdOwnP _ hga rfl 3 rfl | exact hW.rdP _ hga rfl 4 rfl | exact hW.rdOwnP _ hga rfl 4 rfl | exact hW.rdP _ hga rfl 5 rfl | exact hW.rdOwnP _ hga rfl 5 rfl | exact hW.rdP _ hga rfl 6 rfl | exact hW.rdOwnP _ hga rfl 6 rfl | exact hW.rdP _ hga rfl 7 rfl | exact hW.rdOwnP _ hga rfl 7 rfl | exact hW.rdP _ hga rfl 8 rfl | exact hW.rdOwnP _ hga rfl 8 rfl | exact hW.rdP _ hga rfl 9 rfl | exact hW.rdOwnP _ hga rfl 9 rfl | exact hW.rdP _ hga rfl 10 rfl | exact hW.rdOwnP _ hga rfl 10 rfl | exact hW.rdP _ hga rfl 11 rfl | exact hW.rdOwnP _ hga rfl 11 rfl | exact hW.rdP _ hga rfl 12 rfl | exact hW.rdOwnP _ hga rfl 12 rfl | exact hW.rdP _ hga rfl 13 rfl | exact hW.rdOwnP _ hga rfl 13 rfl | exact hW.rdP _ hga rfl 14 rfl | exact hW.rdOwnP _ hga rfl 14 rfl | exact hW.rdP _ hga rfl 15 rfl | exact hW.rdOwnP _ hga rfl 15 rfl | exact hW.rdP _ hga rfl 16 rfl | exact hW.rdOwnP _ hga rfl 16 rfl | exact hW.rdP _ hga rfl 17 rfl | exact hW.rdOwnP _ hga rfl 17 rfl | exact hW.rdP _ hga rfl 18 rfl | exact hW.rdOwnP _ hga rfl 18 rfl | exact hW.rdP _ hga rfl 19 rfl | exact hW.rdOwnP _ hga rfl 19 rfl | exact hW.rdP _ hga rfl 20 rfl | exact hW.rdOwnP _ hga rfl 20 rfl | exact hW.rdP _ hga rfl 21 rfl | exact hW.rdOwnP _ hga rfl 21 rfl | exact hW.rdP _ hga rfl 22 rfl | exact hW.rdOwnP _ hga rfl 22 rfl | exact hW.rdP _ hga rfl 23 rfl | exact hW.rdOwnP _ hga rfl 23 rfl), trivial⟩ hb (by omega) (by decide))) ?_
    rintro v cs L ⟨m, rfl, hm, rfl, rfl⟩
    have hm4 : 0 ≤ m ∧ m ≤ 4 := by simp at hm; omega
    clear hm
    refine LoopW.mk ⟨{ u : Int × Sl × List Op × Nat // 0 ≤ u.1 ∧ u.1 + u.2.2.1.length = m ∧ (∀ o ∈ u.2.2.1, OpOk q.pure o) ∧ u.2.2.2 ≤ p1 + 1 + 4 * u.2.2.1.length },
      fun u => .mk [(0, .p 0 0), (2, .p 1 0), (5, .p 2 0), (6, .v (.int .i64 (i : Int))), (7, .v (u.1.2.1.val u.1.2.2.1.length)), (8, .v (.int .i64 u.1.1))] 3 0 [(2, 26, 5), (1, 26, 5), (0, 108, 2)] [((0, 0), .v (bi.val rb.length)), ((0, 1), .v (.int .i64 (u.1.2.2.2 : Int))), ((2, 0), .v (q.h0.val q.sems.length)), ((2, 1), .v (q.h1.val q.groups.length)), ((2, 2), .v (q.h2.val q.barriers.length)), ((2, 3), .v (q.h3.val q.rooms.length)), ((2, 4), .v (q.h4.val q.threads.length))] [own u.1.2.1 75 cOp 3 u.1.2.2.1, fO (progO q), slo bi cByte 1 rb],
      fun u => u.1.1.toNat, ⟨(m, z0, [], p1 + 1), hm4.1, by simp, by simp, Nat.le_refl _⟩, ?_, ?_⟩
    · refine weak_mk [1, 2, 3] ?_ ?_ ?_ ?_ ?_ rfl rfl
      · repeat (first | exact trivial | refine ⟨⟨_, rfl, (by first | exact .of rfl | exact .lit rfl | exact .of (by first | (rfl)) | exact .lit (by first | (rfl))), (by first | exact trivial | exact Nat.le_of_ble_eq_true rfl | exact small1 rfl)⟩, ?_⟩)
      · repeat (first | exact trivial | refine ⟨⟨(by first | exact .head _ | exact .tail _ (.head _) | exact .tail _ (.tail _ (.head _)) | exact .tail _ (.tail _ (.tail _ (.head _))) | exact .tail _ (.tail _ (.tail _ (.tail _ (.head _)))) | exact .tail _ (.tail _ (.tail _ (.tail _ (.tail _ (.head _))))) | exact .tail _ (.tail _ (.tail _ (.tail _ (.tail _ (.tail _ (.head _)))))) | exact .tail _ (.tail _ (.tail _ (.tail _ (.tail _ (.tail _ (.tail _ (.head _))))))) | exact .tail _ (.tail _ (.tail _ (.tail _ (.tail _ (.tail _ (.tail _ (.tail _ (.head _)))))))) | exact .tail _ (.tail _ (.tail _ (.tail _ (.tail _ (.tail _ (.tail _ (.tail _ (.tail _ (.head _)))))))))), Nat.le_of_ble_eq_true rfl⟩, ?_⟩)
      · repeat (first | exact trivial | refine ⟨⟨_, rfl, (by first | exact .of rfl | exact .lit rfl | exact .of (by first | (rfl)) | exact .lit (by first | (rfl))), (by first | exact trivial | exact Nat.le_of_ble_eq_true rfl | exact small1 rfl)⟩, ?_⟩)
      · repeat (first | exact trivial | refine ⟨⟨_, rfl⟩, ?_⟩)
      · repeat (first | exact trivial | refine ⟨.inl ⟨_, rfl, (by first | rfl | (rfl))⟩, ?_⟩ | refine ⟨.inr ⟨Nat.le_of_ble_eq_true rfl, rfl, rfl, rfl, rfl⟩, ?_⟩)
    rintro ⟨⟨j, z, ops, p2⟩, j1, j2, j3, j4⟩
    simp only at j1 j2 j3 j4 ⊢
    refine CaseB.mk (fun gj => ?_) (fun gj => ?_)
    · have hj : 0 < j := by have := of_decide_eq_true gj; omega
      have hwj : IntKind.i64.wrap (j - 1) = j - 1 := by rw [wrap_nn] <;> omega
      refine stop_callP _ cl62 rfl rfl rfl rfl ⟨rfl, rfl⟩ rfl rfl (fun A w ga hga hW hblk => (op6_c ga bi rb _ q w hblk ⟨hW.getP _ hga rfl 2 rfl (.refl _), hW.getP _ hga rfl 1 rfl (.O_R fun _ h => h), trivial⟩ hb (by omega))) ?_
      rintro v cs L ⟨o, p3, rfl, ho, rfl, hp3, rfl⟩
      refine AllSl.mk fun b => ?_
      refine stop_app encOp 1 tabOk (xs := ops) (ys := [o]) rfl rfl rfl rfl rfl rfl rfl rfl rfl (by decide) ⟨rfl, rfl⟩ rfl (by first | exact rdAt 0 rfl | exact rdOwnAt 0 rfl | exact rdAt 1 rfl | exact rdOwnAt 1 rfl | exact rdAt 2 rfl | exact rdOwnAt 2 rfl | exact rdAt 3 rfl | exact rdOwnAt 3 rfl | exact rdAt 4 rfl | exact rdOwnAt 4 rfl | exact rdAt 5 rfl | exact rdOwnAt 5 rfl | exact rdAt 6 rfl | exact rdOwnAt 6 rfl | exact rdAt 7 rfl | exact rdOwnAt 7 rfl | exact rdAt 8 rfl | exact rdOwnAt 8 rfl | exact rdAt 9 rfl | exact rdOwnAt 9 rfl | exact rdAt 10 rfl | exact rdOwnAt 10 rfl | exact rdAt 11 rfl | exact rdOwnAt 11 rfl | exact rdAt 12 rfl | exact rdOwnAt 12 rfl | exact rdAt 13 rfl | exact rdOwnAt 13 rfl | exact rdAt 14 rfl | exact rdOwnAt 14 rfl | exact rdAt 15 rfl | exact rdOwnAt 15 rfl | exact rdAt 16 rfl | exact rdOwnAt 16 rfl | exact rdAt 17 rfl | exact rdOwnAt 17 rfl | exact rdAt 18 rfl | exact rdOwnAt 18 rfl | exact rdAt 19 rfl | exact rdOwnAt 19 rfl | exact rdAt 20 rfl | exact rdOwnAt 20 rfl | exact rdAt 21 rfl | exact rdOwnAt 21 rfl | exact rdAt 22 rfl | exact rdOwnAt 22 rfl | exact rdAt 23 rfl | exact rdOwnAt 23 rfl) (by first | omega | (simp; done) | (simp; omega) | (unfold maxLen; omega) | (unfold maxLen; simp; done) | (unfold maxLen; simp; omega)) (by first | omega | (simp; done) | (simp; omega) | (unfold maxLen; omega) | (unfold maxLen; simp; done) | (unfold maxLen; simp; omega)) (fun z3 => ?_)
      refine ⟨⟨(j - 1, z3, ops ++ [o], p3), show 0 ≤ j - 1 by omega, by simp; omega, fun o' ho' => ?_, by simp; omega⟩, ?_, by simp only; omega⟩
      · rcases List.mem_append.1 ho' with h | h
        · exact j3 _ h
        · simp only [List.mem_singleton] at h; subst h; exact ho
      · refine weak_mk [0, 2, 3] ?_ ?_ ?_ ?_ ?_ rfl rfl
        · repeat (first | exact trivial | refine ⟨⟨_, rfl, (by first | exact .of rfl | exact .lit rfl | exact .of (by first | ((exact congrArg (fun z => SV.v (Value.int .i64 z)) hwj))) | exact .lit (by first | ((exact congrArg (fun z => SV.v (Value.int .i64 z)) hwj)))), (by first | exact trivial | exact Nat.le_of_ble_eq_true rfl | exact small1 rfl)⟩, ?_⟩)
        · repeat (first | exact trivial | refine ⟨⟨(by first | exact .head _ | exact .tail _ (.head _) | exact .tail _ (.tail _ (.head _)) | exact .tail _ (.tail _ (.tail _ (.head _))) | exact .tail _ (.tail _ (.tail _ (.tail _ (.head _)))) | exact .tail _ (.tail _ (.tail _ (.tail _ (.tail _ (.head _))))) | exact .tail _ (.tail _ (.tail _ (.tail _ (.tail _ (.tail _ (.head _)))))) | exact .tail _ (.tail _ (.tail _ (.tail _ (.tail _ (.tail _ (.tail _ (.head _))))))) | exact .tail _ (.tail _ (.tail _ (.tail _ (.tail _ (.tail _ (.tail _ (.tail _ (.head _)))))))) | exact .tail _ (.tail _ (.tail _ (.tail _ (.tail _ (.tail _ (.tail _ (.tail _ (.tail _ (.head _)))))))))), Nat.le_of_ble_eq_true rfl⟩, ?_⟩)
        · repeat (first | exact trivial | refine ⟨⟨_, rfl, (by first | exact .of rfl | exact .lit rfl | exact .of (by first | ((exact congrArg (fun z => SV.v (Value.int .i64 z)) hwj))) | exact .lit (by first | ((exact congrArg (fun z => SV.v (Value.int .i64 z)) hwj)))), (by first | exact trivial | exact Nat.le_of_ble_eq_true rfl | exact small1 rfl)⟩, ?_⟩)
        · repeat (first | exact trivial | refine ⟨⟨_, rfl⟩, ?_⟩)
        · repeat (first | exact trivial | refine ⟨.inl ⟨_, rfl, (by first | rfl | ((exact congrArg (fun z => SV.v (Value.int .i64 z)) hwj)))⟩, ?_⟩ | refine ⟨.inr ⟨Nat.le_of_ble_eq_true rfl, rfl, rfl, rfl, rfl⟩, ?_⟩)
    refine AllSl.mk fun b => ?_
    refine stop_shift (.splitO 2 (L := [own q.h4 39 cOpSH 1 q.threads]) (G' := progR q) rfl (progO_out q)) ?_
    obtain ⟨x, hx⟩ : ∃ x : OpSH, x = ⟨ops, z⟩ := ⟨_, rfl⟩
    refine stop_app encOpSH 0 tabOk (xs := q.threads) (ys := [⟨ops, z⟩]) rfl rfl rfl rfl rfl rfl rfl rfl rfl (by decide) ⟨rfl, rfl⟩ rfl (by first | exact rdAt 0 rfl | exact rdOwnAt 0 rfl | exact rdAt 1 rfl | exact rdOwnAt 1 rfl | exact rdAt 2 rfl | exact rdOwnAt 2 rfl | exact rdAt 3 rfl | exact rdOwnAt 3 rfl | exact rdAt 4 rfl | exact rdOwnAt 4 rfl | exact rdAt 5 rfl | exact rdOwnAt 5 rfl | exact rdAt 6 rfl | exact rdOwnAt 6 rfl | exact rdAt 7 rfl | exact rdOwnAt 7 rfl | exact rdAt 8 rfl | exact rdOwnAt 8 rfl | exact rdAt 9 rfl | exact rdOwnAt 9 rfl | exact rdAt 10 rfl | exact rdOwnAt 10 rfl | exact rdAt 11 rfl | exact rdOwnAt 11 rfl | exact rdAt 12 rfl | exact rdOwnAt 12 rfl | exact rdAt 13 rfl | exact rdOwnAt 13 rfl | exact rdAt 14 rfl | exact rdOwnAt 14 rfl | exact rdAt 15 rfl | exact rdOwnAt 15 rfl | exact rdAt 16 rfl | exact rdOwnAt 16 rfl | exact rdAt 17 rfl | exact rdOwnAt 17 rfl | exact rdAt 18 rfl | exact rdOwnAt 18 rfl | exact rdAt 19 rfl | exact rdOwnAt 19 rfl | exact rdAt 20 rfl | exact rdOwnAt 20 rfl | exact rdAt 21 rfl | exact rdOwnAt 21 rfl | exact rdAt 22 rfl | exact rdOwnAt 22 rfl | exact rdAt 23 rfl | exact rdOwnAt 23 rfl) (by first | omega | (simp; done) | (simp; omega) | (unfold maxLen; omega) | (unfold maxLen; simp; done) | (unfold maxLen; simp; omega)) (by first | omega | (simp; done) | (simp; omega) | (unfold maxLen; omega) | (unfold maxLen; simp; done) | (unfold maxLen; simp; omega)) (fun z5 => ?_)
    rw [← hx]
    refine ⟨⟨(i - 1, { q with threads := q.threads ++ [x], h4 := z5 }, p2), by simp; omega, fun t ht => ?_, i3, by simp; omega⟩, ?_, by simp only; omega⟩
    · have hq : q.pure = ⟨[x0, 1], [x1], [2], [x2], q.threads.map (·.m)⟩ := by simp [ProgH.pure, i3.1, i3.2.1, i3.2.2.1, i3.2.2.2]
      rcases List.mem_append.1 ht with ht | ht
      · exact i2 t ht
      · simp only [List.mem_singleton] at ht
        rw [ht, hx]
        exact ⟨by show ops.length ≤ 8; omega, fun o ho => by have := j3 o ho; rw [hq] at this; exact this⟩
    · refine weak_shift (.joinO [0, 1, 3] (Gs := [[_], _, [_]]) ⟨.inl ⟨_, rfl, .own⟩, .inl ⟨_, rfl, .o⟩, .inl ⟨_, rfl, .own⟩, trivial⟩ rfl (G := progO { q with threads := q.threads ++ [x], h4 := z5 }) (by subst hx; exact progO_in q _ z5)) ?_
      refine weak_mk [0, 2] ?_ ?_ ?_ ?_ ?_ rfl rfl
      · repeat (first | exact trivial | refine ⟨⟨_, rfl, (by first | exact .of rfl | exact .lit rfl | exact .of (by first | ((exact congrArg (fun z => SV.v (Value.int .i64 z)) hwi))) | exact .lit (by first | ((exact congrArg (fun z => SV.v (Value.int .i64 z)) hwi)))), (by first | exact trivial | exact Nat.le_of_ble_eq_true rfl | exact small1 rfl)⟩, ?_⟩)
      · repeat (first | exact trivial | refine ⟨⟨(by first | exact .head _ | exact .tail _ (.head _) | exact .tail _ (.tail _ (.head _)) | exact .tail _ (.tail _ (.tail _ (.head _))) | exact .tail _ (.tail _ (.tail _ (.tail _ (.head _)))) | exact .tail _ (.tail _ (.tail _ (.tail _ (.tail _ (.head _))))) | exact .tail _ (.tail _ (.tail _ (.tail _ (.tail _ (.tail _ (.head _)))))) | exact .tail _ (.tail _ (.tail _ (.tail _ (.tail _ (.tail _ (.tail _ (.head _))))))) | exact .tail _ (.tail _ (.tail _ (.tail _ (.tail _ (.tail _ (.tail _ (.tail _ (.head _)))))))) | exact .tail _ (.tail _ (.tail _ (.tail _ (.tail _ (.tail _ (.tail _ (.tail _ (.tail _ (.head _)))))))))), Nat.le_of_ble_eq_true rfl⟩, ?_⟩)
      · repeat (first | exact trivial | refine ⟨⟨_, rfl, (by first | exact .of rfl | exact .lit rfl | exact .of (by first | ((exact congrArg (fun z => SV.v (Value.int .i64 z)) hwi))) | exact .lit (by first | ((exact congrArg (fun z => SV.v (Value.int .i64 z)) hwi)))), (by first | exact trivial | exact Nat.le_of_ble_eq_true rfl | exact small1 rfl)⟩, ?_⟩)
      · repeat (first | exact trivial | refine ⟨⟨_, rfl⟩, ?_⟩)
      · repeat (first | exact trivial | refine ⟨.inl ⟨_, rfl, (by first | rfl | ((exact congrArg (fun z => SV.v (Value.int .i64 z)) hwi)))⟩, ?_⟩ | refine ⟨.inr ⟨Nat.le_of_ble_eq_true rfl, rfl, rfl, rfl, rfl⟩, ?_⟩)
  have hi : i = 0 := by have := of_decide_eq_false gi; omega
  have hq : q.pure = ⟨[x0, 1], [x1], [2], [x2], q.threads.map (·.m)⟩ := by simp [ProgH.pure, i3.1, i3.2.1, i3.2.2.1, i3.2.2.2]
  have hops : ∀ t ∈ q.threads.map (·.m), t.length ≤ 8 ∧ ∀ o ∈ t, OpOk (Prog.mk [x0, 1] [x1] [2] [x2] [[]]) o := fun t ht => by
    obtain ⟨t', ht', rfl⟩ := List.mem_map.1 ht
    exact i2 t' ht'
  have hl : (q.threads.map (·.m)).length = 2 + k1 := by rw [List.length_map]; omega
  have ok : ProgOk q.pure := by
    rw [hq]
    exact ⟨ok0.sems, ok0.groups, ok0.barriers, ok0.rooms, by show 1 ≤ (q.threads.map (·.m)).length; omega, by show (q.threads.map (·.m)).length ≤ 4; omega, hops⟩
  exact retP [0] ⟨q, _, rfl, ok, rfl, by omega, rfl⟩ rfl rfl ⟨.inl ⟨_, rfl, rfl⟩, trivial⟩ rfl ⟨rfl, trivial⟩ (fun _ => rfl)

end Go.Proofs.Ytjkkoonennpceaa

namespace Go.Proofs.Ytjkkoonennpceaa

open Go Go.Sx Go.RowKit

theorem neWaiter (x y : Waiter) (w : World) : (binOp .neq 98 (.agg (cWaiter x).toArray) (.agg (cWaiter y).toArray)).run Try.prog w = .ok (.bool (decide (x ≠ y))) w := by
  have h := neq_ints (P := Try.prog) (t := 98) (it := 3) (xs := [x.t, x.n]) (ys := [y.t, y.n]) (by kernel_rfl) (by kernel_rfl) (by kernel_rfl) rfl (by kernel_rfl) w
  have e : ([x.t, x.n] ≠ [y.t, y.n]) ↔ x ≠ y := by cases x; cases y; simp
  rw [show decide (x ≠ y) = decide ([x.t, x.n] ≠ [y.t, y.n]) from by simp only [e]]
  exact h

end Go.Proofs.Ytjkkoonennpceaa

namespace Go.Proofs.Ytjkkoonennpceaa

open Go Go.Sx Go.RowKit

set_option maxRecDepth 100000 in
theorem eqWaiters_c (i j : Sl) (xs ys : List Waiter) (w : World) (h : At w [slo i cWaiter 2 xs, slo j cWaiter 2 ys]) (hb : xs.length ≤ 4294967296) (hb2 : ys.length ≤ 4294967296) :
    Calls Try.prog 45 #[i.val xs.length, j.val ys.length] w (Ret w fun v L => v = .bool (decide (xs = ys)) ∧ L = []) := by
  refine calls2 Try.func45 rfl tabOk w _ rfl _ rfl _ h ⟨rfl, rfl, rfl, rfl, trivial⟩ _ _ (by decide) ?_
  refine CaseB.mk (fun h => ?_) (fun h => ?_)
  · have hne : xs ≠ ys := by rintro rfl; simp at h
    refine retw [] ⟨?_, rfl⟩ trivial rfl trivial (fun _ => rfl)
    simp [hne]
  · have hl : xs.length = ys.length := by simp at h; omega
    refine LoopW.mk ⟨{ k : Nat // k ≤ xs.length ∧ xs.take k = ys.take k },
      fun p => .mk [(0, .v (i.val xs.length)), (1, .v (j.val ys.length)), (12, .v (.int .i64 xs.length)), (13, .v (.int .i64 p.1))] 0 0 [] [] [slo i cWaiter 2 xs, slo j cWaiter 2 ys],
      fun p => xs.length - p.1, ⟨0, Nat.zero_le _, rfl⟩, ?_, ?_⟩
    · refine weak_mk [0, 1] ?_ ?_ ?_ ?_ ?_ rfl rfl
      · repeat (first | exact trivial | refine ⟨⟨_, rfl, (by first | exact .of rfl | exact .lit rfl | exact .of (by first | (rfl)) | exact .lit (by first | (rfl))), (by first | exact trivial | exact Nat.le_of_ble_eq_true rfl | exact small1 rfl)⟩, ?_⟩)
      · repeat (first | exact trivial | refine ⟨⟨(by first | exact .head _ | exact .tail _ (.head _) | exact .tail _ (.tail _ (.head _)) | exact .tail _ (.tail _ (.tail _ (.head _))) | exact .tail _ (.tail _ (.tail _ (.tail _ (.head _)))) | exact .tail _ (.tail _ (.tail _ (.tail _ (.tail _ (.head _))))) | exact .tail _ (.tail _ (.tail _ (.tail _ (.tail _ (.tail _ (.head _)))))) | exact .tail _ (.tail _ (.tail _ (.tail _ (.tail _ (.tail _ (.tail _ (.head _))))))) | exact .tail _ (.tail _ (.tail _ (.tail _ (.tail _ (.tail _ (.tail _ (.tail _ (.head _)))))))) | exact .tail _ (.tail _ (.tail _ (.tail _ (.tail _ (.tail _ (.tail _ (.tail _ (.tail _ (.head _)))))))))), Nat.le_of_ble_eq_true rfl⟩, ?_⟩)
      · repeat (first | exact trivial | refine ⟨⟨_, rfl, (by first | exact .of rfl | exact .lit rfl | exact .of (by first | (rfl)) | exact .lit (by first | (rfl))), (by first | exact trivial | exact Nat.le_of_ble_eq_true rfl | exact small1 rfl)⟩, ?_⟩)
      · repeat (first | exact trivial | refine ⟨⟨_, rfl⟩, ?_⟩)
      · repeat (first | exact trivial | refine ⟨.inl ⟨_, rfl, (by first | rfl | (rfl))⟩, ?_⟩ | refine ⟨.inr ⟨Nat.le_of_ble_eq_true rfl, rfl, rfl, rfl, rfl⟩, ?_⟩)
    · rintro ⟨k, hk, he⟩
      refine CaseB.mk (fun h => ?_) (fun h => ?_)
      · have hlt : k < xs.length := by simpa using h
        have hlt2 : k < ys.length := by omega
        obtain ⟨q1, q2⟩ := take_eq_succ he hlt hlt2
        refine draw_start tabOk (by kernel_rfl) (by kernel_rfl) (by kernel_rfl) 200 [] [0, 1] [_, _] trivial trivial ⟨rfl, rfl, trivial⟩ rfl ?_
        refine d_idx (ti := tiOf tab) encWaiter tabOk rfl rfl rfl rfl rfl ⟨rfl, rfl⟩ (by first | exact rdAt 0 rfl | exact rdOwnAt 0 rfl | exact rdAt 1 rfl | exact rdOwnAt 1 rfl | exact rdAt 2 rfl | exact rdOwnAt 2 rfl | exact rdAt 3 rfl | exact rdOwnAt 3 rfl | exact rdAt 4 rfl | exact rdOwnAt 4 rfl | exact rdAt 5 rfl | exact rdOwnAt 5 rfl | exact rdAt 6 rfl | exact rdOwnAt 6 rfl | exact rdAt 7 rfl | exact rdOwnAt 7 rfl | exact rdAt 8 rfl | exact rdOwnAt 8 rfl | exact rdAt 9 rfl | exact rdOwnAt 9 rfl | exact rdAt 10 rfl | exact rdOwnAt 10 rfl | exact rdAt 11 rfl | exact rdOwnAt 11 rfl | exact rdAt 12 rfl | exact rdOwnAt 12 rfl | exact rdAt 13 rfl | exact rdOwnAt 13 rfl | exact rdAt 14 rfl | exact rdOwnAt 14 rfl | exact rdAt 15 rfl | exact rdOwnAt 15 rfl | exact rdAt 16 rfl | exact rdOwnAt 16 rfl | exact rdAt 17 rfl | exact rdOwnAt 17 rfl | exact rdAt 18 rfl | exact rdOwnAt 18 rfl | exact rdAt 19 rfl | exact rdOwnAt 19 rfl | exact rdAt 20 rfl | exact rdOwnAt 20 rfl | exact rdAt 21 rfl | exact rdOwnAt 21 rfl | exact rdAt 22 rfl | exact rdOwnAt 22 rfl | exact rdAt 23 rfl | exact rdOwnAt 23 rfl) k rfl (by first | omega | (simp; done) | (simp; omega) | (unfold maxLen; omega) | (unfold maxLen; simp; done) | (unfold maxLen; simp; omega)) (fun ad => ?_)
        refine d_idx (ti := tiOf tab) encWaiter tabOk rfl rfl rfl rfl rfl ⟨rfl, rfl⟩ (by first | exact rdAt 0 rfl | exact rdOwnAt 0 rfl | exact rdAt 1 rfl | exact rdOwnAt 1 rfl | exact rdAt 2 rfl | exact rdOwnAt 2 rfl | exact rdAt 3 rfl | exact rdOwnAt 3 rfl | exact rdAt 4 rfl | exact rdOwnAt 4 rfl | exact rdAt 5 rfl | exact rdOwnAt 5 rfl | exact rdAt 6 rfl | exact rdOwnAt 6 rfl | exact rdAt 7 rfl | exact rdOwnAt 7 rfl | exact rdAt 8 rfl | exact rdOwnAt 8 rfl | exact rdAt 9 rfl | exact rdOwnAt 9 rfl | exact rdAt 10 rfl | exact rdOwnAt 10 rfl | exact rdAt 11 rfl | exact rdOwnAt 11 rfl | exact rdAt 12 rfl | exact rdOwnAt 12 rfl | exact rdAt 13 rfl | exact rdOwnAt 13 rfl | exact rdAt 14 rfl | exact rdOwnAt 14 rfl | exact rdAt 15 rfl | exact rdOwnAt 15 rfl | exact rdAt 16 rfl | exact rdOwnAt 16 rfl | exact rdAt 17 rfl | exact rdOwnAt 17 rfl | exact rdAt 18 rfl | exact rdOwnAt 18 rfl | exact rdAt 19 rfl | exact rdOwnAt 19 rfl | exact rdAt 20 rfl | exact rdOwnAt 20 rfl | exact rdAt 21 rfl | exact rdOwnAt 21 rfl | exact rdAt 22 rfl | exact rdOwnAt 22 rfl | exact rdAt 23 rfl | exact rdOwnAt 23 rfl) k rfl (by first | omega | (simp; done) | (simp; omega) | (unfold maxLen; omega) | (unfold maxLen; simp; done) | (unfold maxLen; simp; omega)) (fun ad2 => ?_)
        refine d_bin rfl rfl rfl ⟨rfl, rfl⟩ (.bool (decide (xs[k] ≠ ys[k]))) (fun w => (run_eqGuard_agg w _ _ _ _ _ _ (by kernel_rfl))) (fun w => (neWaiter _ _ w)) ?_
        refine CaseB.mk (fun h => ?_) (fun h => ?_)
        · have hne := q2 (by simpa using h)
          refine retw [] ⟨?_, rfl⟩ trivial rfl trivial (fun _ => rfl)
          simp [hne]
        · have heq := q1 (by simpa using h)
          have hw := wrapN k _ hlt hb
          refine ⟨⟨k + 1, by omega, heq⟩, ?_, by simp; omega⟩
          refine weak_mk [0, 1] ?_ ?_ ?_ ?_ ?_ rfl rfl
          · repeat (first | exact trivial | refine ⟨⟨_, rfl, (by first | exact .of rfl | exact .lit rfl | exact .of (by first | ((exact congrArg (fun z => SV.v (Value.int .i64 z)) hw))) | exact .lit (by first | ((exact congrArg (fun z => SV.v (Value.int .i64 z)) hw)))), (by first | exact trivial | exact Nat.le_of_ble_eq_true rfl | exact small1 rfl)⟩, ?_⟩)
          · repeat (first | exact trivial | refine ⟨⟨(by first | exact .head _ | exact .tail _ (.head _) | exact .tail _ (.tail _ (.head _)) | exact .tail _ (.tail _ (.tail _ (.head _))) | exact .tail _ (.tail _ (.tail _ (.tail _ (.head _)))) | exact .tail _ (.tail _ (.tail _ (.tail _ (.tail _ (.head _))))) | exact .tail _ (.tail _ (.tail _ (.tail _ (.tail _ (.tail _ (.head _)))))) | exact .tail _ (.tail _ (.tail _ (.tail _ (.tail _ (.tail _ (.tail _ (.head _))))))) | exact .tail _ (.tail _ (.tail _ (.tail _ (.tail _ (.tail _ (.tail _ (.tail _ (.head _)))))))) | exact .tail _ (.tail _ (.tail _ (.tail _ (.tail _ (.tail _ (.tail _ (.tail _ (.tail _ (.head _)))))))))), Nat.le_of_ble_eq_true rfl⟩, ?_⟩)
          · repeat (first | exact trivial | refine ⟨⟨_, rfl, (by first | exact .of rfl | exact .lit rfl | exact .of (by first | ((exact congrArg (fun z => SV.v (Value.int .i64 z)) hw))) | exact .lit (by first | ((exact congrArg (fun z => SV.v (Value.int .i64 z)) hw)))), (by first | exact trivial | exact Nat.le_of_ble_eq_true rfl | exact small1 rfl)⟩, ?_⟩)
          · repeat (first | exact trivial | refine ⟨⟨_, rfl⟩, ?_⟩)
          · repeat (first | exact trivial | refine ⟨.inl ⟨_, rfl, (by first | rfl | ((exact congrArg (fun z => SV.v (Value.int .i64 z)) hw)))⟩, ?_⟩ | refine ⟨.inr ⟨Nat.le_of_ble_eq_true rfl, rfl, rfl, rfl, rfl⟩, ?_⟩)
      · have hge : xs.length ≤ k := by simpa using h
        have heq : xs = ys := by rw [List.take_of_length_le hge, List.take_of_length_le (by omega)] at he; exact he
        refine retw [] ⟨?_, rfl⟩ trivial rfl trivial (fun _ => rfl)
        simp [heq]

set_option maxRecDepth 100000 in
theorem semSame_c (m k : Sem) (q q2 : Sl) (w : World) (h : At w [slo q cWaiter 2 m.queue, slo q2 cWaiter 2 k.queue]) (hb : m.queue.length ≤ 4294967296) (hb2 : k.queue.length ≤ 4294967296) :
    Calls Try.prog 21 #[semV m q, semV k q2] w (Ret w fun v L => v = .bool (decide (m = k)) ∧ L = []) := by
  have hx : m = k ↔ m.free = k.free ∧ m.limit = k.limit ∧ m.queue = k.queue := by cases m; cases k; simp
  refine calls2 Try.func21 rfl tabOk w _ rfl _ rfl _ h ⟨rfl, rfl, rfl, rfl, trivial⟩ _ _ (by decide) ?_
  refine CaseB.mk (fun h0 => ?_) (fun h0 => ?_)
  rotate_left
  · refine retw [] ⟨?_, rfl⟩ trivial rfl trivial (fun _ => rfl)
    simp at h0
    simp [hx, h0]
  refine CaseB.mk (fun h1 => ?_) (fun h1 => ?_)
  rotate_left
  · refine retw [] ⟨?_, rfl⟩ trivial rfl trivial (fun _ => rfl)
    simp at h1
    simp [hx, h1]
  refine stop_call _ cl45 rfl rfl rfl rfl ⟨rfl, rfl⟩ (fun A w hW => eqWaiters_c q q2 m.queue k.queue w ⟨(by first | exact hW.rd 0 rfl | exact hW.rdOwn 0 rfl | exact hW.rd 1 rfl | exact hW.rdOwn 1 rfl | exact hW.rd 2 rfl | exact hW.rdOwn 2 rfl | exact hW.rd 3 rfl | exact hW.rdOwn 3 rfl | exact hW.rd 4 rfl | exact hW.rdOwn 4 rfl | exact hW.rd 5 rfl | exact hW.rdOwn 5 rfl | exact hW.rd 6 rfl | exact hW.rdOwn 6 rfl | exact hW.rd 7 rfl | exact hW.rdOwn 7 rfl | exact hW.rd 8 rfl | exact hW.rdOwn 8 rfl | exact hW.rd 9 rfl | exact hW.rdOwn 9 rfl | exact hW.rd 10 rfl | exact hW.rdOwn 10 rfl | exact hW.rd 11 rfl | exact hW.rdOwn 11 rfl | exact hW.rd 12 rfl | exact hW.rdOwn 12 rfl | exact hW.rd 13 rfl | exact hW.rdOwn 13 rfl | exact hW.rd 14 rfl | exact hW.rdOwn 14 rfl | exact hW.rd 15 rfl | exact hW.rdOwn 15 rfl | exact hW.rd 16 rfl | exact hW.rdOwn 16 rfl | exact hW.rd 17 rfl | exact hW.rdOwn 17 rfl | exact hW.rd 18 rfl | exact hW.rdOwn 18 rfl | exact hW.rd 19 rfl | exact hW.rdOwn 19 rfl | exact hW.rd 20 rfl | exact hW.rdOwn 20 rfl | exact hW.rd 21 rfl | exact hW.rdOwn 21 rfl | exact hW.rd 22 rfl | exact hW.rdOwn 22 rfl | exact hW.rd 23 rfl | exact hW.rdOwn 23 rfl), (by first | exact hW.rd 0 rfl | exact hW.rdOwn 0 rfl | exact hW.rd 1 rfl | exact hW.rdOwn 1 rfl | exact hW.rd 2 rfl | exact hW.rdOwn 2 rfl | exact hW.rd 3 rfl | exact hW.rdOwn 3 rfl | exact hW.rd 4 rfl | exact hW.rdOwn 4 rfl | exact hW.rd 5 rfl | exact hW.rdOwn 5 rfl | exact hW.rd 6 rfl | exact hW.rdOwn 6 rfl | exact hW.rd 7 rfl | exact hW.rdOwn 7 rfl | exact hW.rd 8 rfl | exact hW.rdOwn 8 rfl | exact hW.rd 9 rfl | exact hW.rdOwn 9 rfl | exact hW.rd 10 rfl | exact hW.rdOwn 10 rfl | exact hW.rd 11 rfl | exact hW.rdOwn 11 rfl | exact hW.rd 12 rfl | exact hW.rdOwn 12 rfl | exact hW.rd 13 rfl | exact hW.rdOwn 13 rfl | exact hW.rd 14 rfl | exact hW.rdOwn 14 rfl | exact hW.rd 15 rfl | exact hW.rdOwn 15 rfl | exact hW.rd 16 rfl | exact hW.rdOwn 16 rfl | exact hW.rd 17 rfl | exact hW.rdOwn 17 rfl | exact hW.rd 18 rfl | exact hW.rdOwn 18 rfl | exact hW.rd 19 rfl | exact hW.rdOwn 19 rfl | exact hW.rd 20 rfl | exact hW.rdOwn 20 rfl | exact hW.rd 21 rfl | exact hW.rdOwn 21 rfl | exact hW.rd 22 rfl | exact hW.rdOwn 22 rfl | exact hW.rd 23 rfl | exact hW.rdOwn 23 rfl), trivial⟩ hb hb2) ?_
  rintro v L ⟨rfl, rfl⟩
  refine retw [] ⟨?_, rfl⟩ trivial rfl trivial (fun _ => rfl)
  simp at h0 h1
  simp [hx, h0, h1]

set_option maxRecDepth 100000 in
theorem onceSame_c (m k : Once) (q q2 : Sl) (w : World) (h : At w [slo q cInt 1 m.waits, slo q2 cInt 1 k.waits]) (hb : m.waits.length ≤ 4294967296) (hb2 : k.waits.length ≤ 4294967296) :
    Calls Try.prog 23 #[onceV m q, onceV k q2] w (Ret w fun v L => v = .bool (decide (m = k)) ∧ L = []) := by
  have hx : m = k ↔ m.state = k.state ∧ m.owner = k.owner ∧ m.value = k.value ∧ m.waits = k.waits := by cases m; cases k; simp
  refine calls2 Try.func23 rfl tabOk w _ rfl _ rfl _ h ⟨rfl, rfl, rfl, rfl, trivial⟩ _ _ (by decide) ?_
  refine CaseB.mk (fun h0 => ?_) (fun h0 => ?_)
  rotate_left
  · refine retw [] ⟨?_, rfl⟩ trivial rfl trivial (fun _ => rfl)
    simp at h0
    simp [hx, h0]
  refine CaseB.mk (fun h1 => ?_) (fun h1 => ?_)
  rotate_left
  · refine retw [] ⟨?_, rfl⟩ trivial rfl trivial (fun _ => rfl)
    simp at h1
    simp [hx, h1]
  refine CaseB.mk (fun h2 => ?_) (fun h2 => ?_)
  rotate_left
  · refine retw [] ⟨?_, rfl⟩ trivial rfl trivial (fun _ => rfl)
    simp at h2
    simp [hx, h2]
  refine stop_call _ cl19 rfl rfl rfl rfl ⟨rfl, rfl⟩ (fun A w hW => eqInts_c q q2 m.waits k.waits w ⟨(by first | exact hW.rd 0 rfl | exact hW.rdOwn 0 rfl | exact hW.rd 1 rfl | exact hW.rdOwn 1 rfl | exact hW.rd 2 rfl | exact hW.rdOwn 2 rfl | exact hW.rd 3 rfl | exact hW.rdOwn 3 rfl | exact hW.rd 4 rfl | exact hW.rdOwn 4 rfl | exact hW.rd 5 rfl | exact hW.rdOwn 5 rfl | exact hW.rd 6 rfl | exact hW.rdOwn 6 rfl | exact hW.rd 7 rfl | exact hW.rdOwn 7 rfl | exact hW.rd 8 rfl | exact hW.rdOwn 8 rfl | exact hW.rd 9 rfl | exact hW.rdOwn 9 rfl | exact hW.rd 10 rfl | exact hW.rdOwn 10 rfl | exact hW.rd 11 rfl | exact hW.rdOwn 11 rfl | exact hW.rd 12 rfl | exact hW.rdOwn 12 rfl | exact hW.rd 13 rfl | exact hW.rdOwn 13 rfl | exact hW.rd 14 rfl | exact hW.rdOwn 14 rfl | exact hW.rd 15 rfl | exact hW.rdOwn 15 rfl | exact hW.rd 16 rfl | exact hW.rdOwn 16 rfl | exact hW.rd 17 rfl | exact hW.rdOwn 17 rfl | exact hW.rd 18 rfl | exact hW.rdOwn 18 rfl | exact hW.rd 19 rfl | exact hW.rdOwn 19 rfl | exact hW.rd 20 rfl | exact hW.rdOwn 20 rfl | exact hW.rd 21 rfl | exact hW.rdOwn 21 rfl | exact hW.rd 22 rfl | exact hW.rdOwn 22 rfl | exact hW.rd 23 rfl | exact hW.rdOwn 23 rfl), (by first | exact hW.rd 0 rfl | exact hW.rdOwn 0 rfl | exact hW.rd 1 rfl | exact hW.rdOwn 1 rfl | exact hW.rd 2 rfl | exact hW.rdOwn 2 rfl | exact hW.rd 3 rfl | exact hW.rdOwn 3 rfl | exact hW.rd 4 rfl | exact hW.rdOwn 4 rfl | exact hW.rd 5 rfl | exact hW.rdOwn 5 rfl | exact hW.rd 6 rfl | exact hW.rdOwn 6 rfl | exact hW.rd 7 rfl | exact hW.rdOwn 7 rfl | exact hW.rd 8 rfl | exact hW.rdOwn 8 rfl | exact hW.rd 9 rfl | exact hW.rdOwn 9 rfl | exact hW.rd 10 rfl | exact hW.rdOwn 10 rfl | exact hW.rd 11 rfl | exact hW.rdOwn 11 rfl | exact hW.rd 12 rfl | exact hW.rdOwn 12 rfl | exact hW.rd 13 rfl | exact hW.rdOwn 13 rfl | exact hW.rd 14 rfl | exact hW.rdOwn 14 rfl | exact hW.rd 15 rfl | exact hW.rdOwn 15 rfl | exact hW.rd 16 rfl | exact hW.rdOwn 16 rfl | exact hW.rd 17 rfl | exact hW.rdOwn 17 rfl | exact hW.rd 18 rfl | exact hW.rdOwn 18 rfl | exact hW.rd 19 rfl | exact hW.rdOwn 19 rfl | exact hW.rd 20 rfl | exact hW.rdOwn 20 rfl | exact hW.rd 21 rfl | exact hW.rdOwn 21 rfl | exact hW.rd 22 rfl | exact hW.rdOwn 22 rfl | exact hW.rd 23 rfl | exact hW.rdOwn 23 rfl), trivial⟩ hb hb2) ?_
  rintro v L ⟨rfl, rfl⟩
  refine retw [] ⟨?_, rfl⟩ trivial rfl trivial (fun _ => rfl)
  simp at h0 h1 h2
  simp [hx, h0, h1, h2]

set_option maxRecDepth 100000 in
theorem groupSame_c (m k : Group) (q q2 : Sl) (w : World) (h : At w [slo q cInt 1 m.waits, slo q2 cInt 1 k.waits]) (hb : m.waits.length ≤ 4294967296) (hb2 : k.waits.length ≤ 4294967296) :
    Calls Try.prog 25 #[groupV m q, groupV k q2] w (Ret w fun v L => v = .bool (decide (m = k)) ∧ L = []) := by
  have hx : m = k ↔ m.count = k.count ∧ m.waits = k.waits := by cases m; cases k; simp
  refine calls2 Try.func25 rfl tabOk w _ rfl _ rfl _ h ⟨rfl, rfl, rfl, rfl, trivial⟩ _ _ (by decide) ?_
  refine CaseB.mk (fun h0 => ?_) (fun h0 => ?_)
  rotate_left
  · refine retw [] ⟨?_, rfl⟩ trivial rfl trivial (fun _ => rfl)
    simp at h0
    simp [hx, h0]
  refine stop_call _ cl19 rfl rfl rfl rfl ⟨rfl, rfl⟩ (fun A w hW => eqInts_c q q2 m.waits k.waits w ⟨(by first | exact hW.rd 0 rfl | exact hW.rdOwn 0 rfl | exact hW.rd 1 rfl | exact hW.rdOwn 1 rfl | exact hW.rd 2 rfl | exact hW.rdOwn 2 rfl | exact hW.rd 3 rfl | exact hW.rdOwn 3 rfl | exact hW.rd 4 rfl | exact hW.rdOwn 4 rfl | exact hW.rd 5 rfl | exact hW.rdOwn 5 rfl | exact hW.rd 6 rfl | exact hW.rdOwn 6 rfl | exact hW.rd 7 rfl | exact hW.rdOwn 7 rfl | exact hW.rd 8 rfl | exact hW.rdOwn 8 rfl | exact hW.rd 9 rfl | exact hW.rdOwn 9 rfl | exact hW.rd 10 rfl | exact hW.rdOwn 10 rfl | exact hW.rd 11 rfl | exact hW.rdOwn 11 rfl | exact hW.rd 12 rfl | exact hW.rdOwn 12 rfl | exact hW.rd 13 rfl | exact hW.rdOwn 13 rfl | exact hW.rd 14 rfl | exact hW.rdOwn 14 rfl | exact hW.rd 15 rfl | exact hW.rdOwn 15 rfl | exact hW.rd 16 rfl | exact hW.rdOwn 16 rfl | exact hW.rd 17 rfl | exact hW.rdOwn 17 rfl | exact hW.rd 18 rfl | exact hW.rdOwn 18 rfl | exact hW.rd 19 rfl | exact hW.rdOwn 19 rfl | exact hW.rd 20 rfl | exact hW.rdOwn 20 rfl | exact hW.rd 21 rfl | exact hW.rdOwn 21 rfl | exact hW.rd 22 rfl | exact hW.rdOwn 22 rfl | exact hW.rd 23 rfl | exact hW.rdOwn 23 rfl), (by first | exact hW.rd 0 rfl | exact hW.rdOwn 0 rfl | exact hW.rd 1 rfl | exact hW.rdOwn 1 rfl | exact hW.rd 2 rfl | exact hW.rdOwn 2 rfl | exact hW.rd 3 rfl | exact hW.rdOwn 3 rfl | exact hW.rd 4 rfl | exact hW.rdOwn 4 rfl | exact hW.rd 5 rfl | exact hW.rdOwn 5 rfl | exact hW.rd 6 rfl | exact hW.rdOwn 6 rfl | exact hW.rd 7 rfl | exact hW.rdOwn 7 rfl | exact hW.rd 8 rfl | exact hW.rdOwn 8 rfl | exact hW.rd 9 rfl | exact hW.rdOwn 9 rfl | exact hW.rd 10 rfl | exact hW.rdOwn 10 rfl | exact hW.rd 11 rfl | exact hW.rdOwn 11 rfl | exact hW.rd 12 rfl | exact hW.rdOwn 12 rfl | exact hW.rd 13 rfl | exact hW.rdOwn 13 rfl | exact hW.rd 14 rfl | exact hW.rdOwn 14 rfl | exact hW.rd 15 rfl | exact hW.rdOwn 15 rfl | exact hW.rd 16 rfl | exact hW.rdOwn 16 rfl | exact hW.rd 17 rfl | exact hW.rdOwn 17 rfl | exact hW.rd 18 rfl | exact hW.rdOwn 18 rfl | exact hW.rd 19 rfl | exact hW.rdOwn 19 rfl | exact hW.rd 20 rfl | exact hW.rdOwn 20 rfl | exact hW.rd 21 rfl | exact hW.rdOwn 21 rfl | exact hW.rd 22 rfl | exact hW.rdOwn 22 rfl | exact hW.rd 23 rfl | exact hW.rdOwn 23 rfl), trivial⟩ hb hb2) ?_
  rintro v L ⟨rfl, rfl⟩
  refine retw [] ⟨?_, rfl⟩ trivial rfl trivial (fun _ => rfl)
  simp at h0
  simp [hx, h0]

set_option maxRecDepth 100000 in
theorem barrierSame_c (m k : Barrier) (q q2 : Sl) (w : World) (h : At w [slo q cInt 1 m.waits, slo q2 cInt 1 k.waits]) (hb : m.waits.length ≤ 4294967296) (hb2 : k.waits.length ≤ 4294967296) :
    Calls Try.prog 18 #[barrierV m q, barrierV k q2] w (Ret w fun v L => v = .bool (decide (m = k)) ∧ L = []) := by
  have hx : m = k ↔ m.parties = k.parties ∧ m.round = k.round ∧ m.waits = k.waits := by cases m; cases k; simp
  refine calls2 Try.func18 rfl tabOk w _ rfl _ rfl _ h ⟨rfl, rfl, rfl, rfl, trivial⟩ _ _ (by decide) ?_
  refine CaseB.mk (fun h0 => ?_) (fun h0 => ?_)
  rotate_left
  · refine retw [] ⟨?_, rfl⟩ trivial rfl trivial (fun _ => rfl)
    simp at h0
    simp [hx, h0]
  refine CaseB.mk (fun h1 => ?_) (fun h1 => ?_)
  rotate_left
  · refine retw [] ⟨?_, rfl⟩ trivial rfl trivial (fun _ => rfl)
    simp at h1
    simp [hx, h1]
  refine stop_call _ cl19 rfl rfl rfl rfl ⟨rfl, rfl⟩ (fun A w hW => eqInts_c q q2 m.waits k.waits w ⟨(by first | exact hW.rd 0 rfl | exact hW.rdOwn 0 rfl | exact hW.rd 1 rfl | exact hW.rdOwn 1 rfl | exact hW.rd 2 rfl | exact hW.rdOwn 2 rfl | exact hW.rd 3 rfl | exact hW.rdOwn 3 rfl | exact hW.rd 4 rfl | exact hW.rdOwn 4 rfl | exact hW.rd 5 rfl | exact hW.rdOwn 5 rfl | exact hW.rd 6 rfl | exact hW.rdOwn 6 rfl | exact hW.rd 7 rfl | exact hW.rdOwn 7 rfl | exact hW.rd 8 rfl | exact hW.rdOwn 8 rfl | exact hW.rd 9 rfl | exact hW.rdOwn 9 rfl | exact hW.rd 10 rfl | exact hW.rdOwn 10 rfl | exact hW.rd 11 rfl | exact hW.rdOwn 11 rfl | exact hW.rd 12 rfl | exact hW.rdOwn 12 rfl | exact hW.rd 13 rfl | exact hW.rdOwn 13 rfl | exact hW.rd 14 rfl | exact hW.rdOwn 14 rfl | exact hW.rd 15 rfl | exact hW.rdOwn 15 rfl | exact hW.rd 16 rfl | exact hW.rdOwn 16 rfl | exact hW.rd 17 rfl | exact hW.rdOwn 17 rfl | exact hW.rd 18 rfl | exact hW.rdOwn 18 rfl | exact hW.rd 19 rfl | exact hW.rdOwn 19 rfl | exact hW.rd 20 rfl | exact hW.rdOwn 20 rfl | exact hW.rd 21 rfl | exact hW.rdOwn 21 rfl | exact hW.rd 22 rfl | exact hW.rdOwn 22 rfl | exact hW.rd 23 rfl | exact hW.rdOwn 23 rfl), (by first | exact hW.rd 0 rfl | exact hW.rdOwn 0 rfl | exact hW.rd 1 rfl | exact hW.rdOwn 1 rfl | exact hW.rd 2 rfl | exact hW.rdOwn 2 rfl | exact hW.rd 3 rfl | exact hW.rdOwn 3 rfl | exact hW.rd 4 rfl | exact hW.rdOwn 4 rfl | exact hW.rd 5 rfl | exact hW.rdOwn 5 rfl | exact hW.rd 6 rfl | exact hW.rdOwn 6 rfl | exact hW.rd 7 rfl | exact hW.rdOwn 7 rfl | exact hW.rd 8 rfl | exact hW.rdOwn 8 rfl | exact hW.rd 9 rfl | exact hW.rdOwn 9 rfl | exact hW.rd 10 rfl | exact hW.rdOwn 10 rfl | exact hW.rd 11 rfl | exact hW.rdOwn 11 rfl | exact hW.rd 12 rfl | exact hW.rdOwn 12 rfl | exact hW.rd 13 rfl | exact hW.rdOwn 13 rfl | exact hW.rd 14 rfl | exact hW.rdOwn 14 rfl | exact hW.rd 15 rfl | exact hW.rdOwn 15 rfl | exact hW.rd 16 rfl | exact hW.rdOwn 16 rfl | exact hW.rd 17 rfl | exact hW.rdOwn 17 rfl | exact hW.rd 18 rfl | exact hW.rdOwn 18 rfl | exact hW.rd 19 rfl | exact hW.rdOwn 19 rfl | exact hW.rd 20 rfl | exact hW.rdOwn 20 rfl | exact hW.rd 21 rfl | exact hW.rdOwn 21 rfl | exact hW.rd 22 rfl | exact hW.rdOwn 22 rfl | exact hW.rd 23 rfl | exact hW.rdOwn 23 rfl), trivial⟩ hb hb2) ?_
  rintro v L ⟨rfl, rfl⟩
  refine retw [] ⟨?_, rfl⟩ trivial rfl trivial (fun _ => rfl)
  simp at h0 h1
  simp [hx, h0, h1]

end Go.Proofs.Ytjkkoonennpceaa

namespace Go.Proofs.Ytjkkoonennpceaa

open Go Go.Sx Go.RowKit

def Fct.fresh : Fct → Fct
  | .sl _ i sz cs n => .sl false i sz cs n
  | .own _ i _ sz cs n => .sl false i sz cs n
  | .other _ _ foot P st => .other false false foot P st

theorem fresh_rd : ∀ {f g : Fct}, Rd f g.aged → Rd f (Fct.fresh g)
  | _, .sl .., h => ⟨h.p, h.foot⟩
  | _, .own .., h => ⟨h.p, h.foot⟩
  | _, .other .., h => ⟨h.p, h.foot⟩

/-- New rows, to be read. -/
abbrev fN (G : List Fct) : Fct := fB false (G.map Fct.fresh)

theorem fN_fR (G : List Fct) : Rd (fN G) (fR G) := by
  have key : ∀ g : Fct, (∀ w, (Fct.fresh g).P w → g.aged.P w) ∧ ∀ b, g.aged.foot b → (Fct.fresh g).foot b := fun g => by
    cases g <;> exact ⟨fun _ h => h, fun _ h => h⟩
  refine ⟨fun w hw g hg => ?_, ?_⟩
  · obtain ⟨f, hf, rfl⟩ := List.mem_map.1 hg
    exact (key f).1 w (hw _ (List.mem_map_of_mem hf))
  · rintro b ⟨g, hg, hb⟩
    obtain ⟨f, hf, rfl⟩ := List.mem_map.1 hg
    exact ⟨_, List.mem_map_of_mem hf, (key f).2 b hb⟩

theorem Shift.pack {F G : List Fct} (hG : ∀ g ∈ G, ∃ f ∈ F, f.old = false ∧ Rd f g.aged) : Shift F [fN G] := by
  intro E A n B M w h
  refine ⟨h.key, h.inj, h.mem, h.a0, h.n0, h.ext, fun f hf => ?_, List.pairwise_singleton _ _⟩
  obtain rfl := List.mem_singleton.1 hf
  refine ⟨fun g' hg' => ?_, ?_, ?_⟩
  · obtain ⟨g, hg, rfl⟩ := List.mem_map.1 hg'
    obtain ⟨f, hf, _, hr⟩ := hG g hg
    exact (fresh_rd hr).p w (h.fct f hf).1
  · rintro b ⟨g', hg', hb⟩
    obtain ⟨g, hg, rfl⟩ := List.mem_map.1 hg'
    obtain ⟨f, hf, _, hr⟩ := hG g hg
    exact (h.fct f hf).2.1 b ((fresh_rd hr).foot b hb)
  · rintro _ b ⟨g', hg', hb⟩
    obtain ⟨g, hg, rfl⟩ := List.mem_map.1 hg'
    obtain ⟨f, hf, ho, hr⟩ := hG g hg
    exact (h.fct f hf).2.2 ho b ((fresh_rd hr).foot b hb)

theorem inON {Zs G : List Fct} (k : Nat) (hk : Zs[k]? = some (fO G)) {g : Fct} (hg : g ∈ G) : ∃ f ∈ Zs, f.old = false ∧ Rd f g.aged := ⟨_, List.mem_of_getElem? hk, rfl, .ofO ⟨g, hg, .refl _⟩⟩

theorem inFN {Zs : List Fct} (k : Nat) {g : Fct} (hk : Zs[k]? = some g) (ho : g.old = false) : ∃ f ∈ Zs, f.old = false ∧ Rd f g.aged := ⟨g, List.mem_of_getElem? hk, ho, .aged g⟩

end Go.Proofs.Ytjkkoonennpceaa

namespace Go.Proofs.Ytjkkoonennpceaa

open Go Go.Sx Go.RowKit

theorem Shift.packK {Zs G : List Fct} (k : Nat) (hk : Zs[k]? = some (fO G)) : Shift Zs (fN G :: Zs.eraseIdx k) := by
  intro E A n B M w h
  have hsub := h.sub (eraseIdx_sub Zs k)
  have hdj := pairwise_nth_erase h.dj hk
  have hfk := h.fct _ (List.mem_of_getElem? hk)
  have key : ∀ g ∈ G, Rd (fO G) (Fct.fresh g) := fun g hg => fresh_rd (.ofO ⟨g, hg, .refl _⟩)
  have hP : ∀ g' ∈ G.map Fct.fresh, g'.P w := fun g' hg' => by
    obtain ⟨g, hg, rfl⟩ := List.mem_map.1 hg'
    exact (key g hg).p w hfk.1
  have hfoot : ∀ b, (fN G).foot b → (fO G).foot b := by
    rintro b ⟨g', hg', hb⟩
    obtain ⟨g, hg, rfl⟩ := List.mem_map.1 hg'
    exact (key g hg).foot b hb
  refine ⟨h.key, h.inj, h.mem, h.a0, h.n0, h.ext, fun f hf => ?_, ?_⟩
  · rcases List.mem_cons.1 hf with rfl | hf
    · exact ⟨hP, fun b hb => hfk.2.1 b (hfoot b hb), fun _ b hb => hfk.2.2 rfl b (hfoot b hb)⟩
    · exact hsub.fct f hf
  · rw [List.pairwise_cons]
    exact ⟨fun f hf ho b hb hb' => hdj f hf (.inl rfl) b (hfoot b hb) hb', hsub.dj⟩

end Go.Proofs.Ytjkkoonennpceaa

namespace Go.Proofs.Ytjkkoonennpceaa

open Go Go.Sx Go.RowKit

/-- What of a state a step leaves as it is before threads go on. -/
structure Keep (op : Op) (s s1 : State) : Prop where
  pl : s1.places = s.places
  st : s1.status = s.status
  fa : s1.fault = s.fault
  se : s1.sems = s.sems ∨ (op.kind = 2 ∨ op.kind = 3) ∧ ∃ x, s1.sems = s.sems.set op.on.toNat x
  ba : s1.barriers = s.barriers ∨ ∃ x, s1.barriers = s.barriers.set op.on.toNat x ∧ x.round ≤ (barrierAt s op).round + 1

/-- What a step says. -/
def SaidR (op : Op) (s s1 : State) : Prop := (s1.said = s.said ∧ op.kind ≠ 1) ∨ ∃ v, s1.said = s.said ++ [v] ∧ ((op.kind = 1 ∨ op.kind = 8) ∧ v = op.arg ∨ op.kind = 9)

/-- What a step leaves. -/
inductive Stp (p : Prog) (s : State) (k : Nat) (st : Int) (op : Op) : State → Prop where
  | on (s1 : State) (who : List Int) : Keep op s s1 → SaidR op s s1 → who.Nodup → (∀ u ∈ who, ofKey (events s) u ≠ []) → Stp p s k st op (onM p (who ++ [(k : Int)]) s1)
  | wait (s1 : State) (b : Int) : Keep op s s1 → s1.said = s.said → op.kind ≠ 1 → (b = 1 ∨ b = 2 ∧ st = 0) → Stp p s k st op (waitM s1 k b)
  | fault (f : Int) : f ≠ 0 → op.kind ≠ 1 → Stp p s k st op (faultM s f)

theorem onceOk_nd {m : Once} (h : OnceOk m) : m.waits.Nodup := by
  rcases h with h | h | h
  · rw [h.2.2.2]; exact List.nodup_nil
  · exact distinct_nd h.2.2.2.1
  · rw [h.2.2.2]; exact List.nodup_nil

theorem Rdy.stp {p : Prog} {s : State} {k : Nat} {ops : List Op} {a st : Int} {op : Op} (r : Rdy p s k ops a st op) (hw : ¬ Worn p s k) : Stp p s k st op (doM p s k) := by
  have hst : s.status.getD (k : Int).toNat 0 = st := by rw [Int.toNat_natCast, List.getD_eq_getElem?_getD, r.h3]; rfl
  rw [Worn, r.at_] at hw
  rw [doM, r.at_, doOp]
  by_cases k1 : op.kind = 1
  · rw [if_pos k1]
    exact .on (sayM s op.arg) [] ⟨rfl, rfl, rfl, .inl rfl, .inl rfl⟩ (.inr ⟨_, rfl, .inl ⟨.inl k1, rfl⟩⟩) List.nodup_nil (fun u hu => by cases hu)
  by_cases k2 : op.kind = 2
  · rw [if_neg k1, if_pos k2, doAcquire]
    split
    · exact .on (setSem s op _) [] ⟨rfl, rfl, rfl, .inr ⟨.inl k2, _, rfl⟩, .inl rfl⟩ (.inl ⟨rfl, k1⟩) List.nodup_nil (fun u hu => by cases hu)
    · exact .wait (setSem s op _) 1 ⟨rfl, rfl, rfl, .inr ⟨.inl k2, _, rfl⟩, .inl rfl⟩ rfl k1 (.inl rfl)
  by_cases k3 : op.kind = 3
  · rw [if_neg k1, if_neg k2, if_pos k3, doRelease]
    obtain ⟨x, hx, hxa, ok, a1, a2, hi⟩ := r.sem (.inr k3)
    rw [hxa, Sem.release]
    by_cases hc : op.arg ≤ x.limit - x.free
    · rw [if_pos hc]
      have f0 := ok.f0
      obtain ⟨n, i1, i2, i3, i4, i5⟩ := handL_ok x.queue (x.free + op.arg) (by omega) (fun w hw => (ok.cnt w hw).1)
      simp only [i1, i2]
      exact Stp.on (p := p) (s := s) (k := k) (st := st) (op := op) (setSem s op ⟨(handL (x.free + op.arg) x.queue).1, x.limit, x.queue.drop n⟩) ((x.queue.take n).map (·.t)) ⟨rfl, rfl, rfl, .inr ⟨.inr k3, _, rfl⟩, .inl rfl⟩ (.inl ⟨rfl, k1⟩) ((distinct_nd ok.dis).sublist ((List.take_sublist _ _).map _)) (fun u hu h0 => ofKey_map_nil.1 ((swap_sems hx x).none h0) (((List.take_sublist _ _).map _).subset hu))
    · rw [if_neg hc]
      exact .fault 1 (by decide) k1
  by_cases k4 : op.kind = 4
  · rw [if_neg k1, if_neg k2, if_neg k3, if_pos k4, doOnce, hst]
    obtain ⟨x, hx, hxa, ok, hv, hi⟩ := r.once k4
    rw [hxa]
    by_cases h2 : st = 2
    · rw [if_pos h2]
      exact .on (setOnce s op (x.finish k op.arg).1) x.waits ⟨rfl, rfl, rfl, .inl rfl, .inl rfl⟩ (.inl ⟨rfl, k1⟩) (onceOk_nd ok) (fun u hu h0 => (ofKey_map_nil (g := fun t : Int => t)).1 ((swap_onces hx x).none h0) (by simpa using hu))
    have h0 : st = 0 := by
      rcases r.ow with ⟨e, _⟩ | ⟨e, _⟩
      · exact e
      · exact (h2 e).elim
    rw [if_neg h2]
    split
    · exact .wait (setOnce s op _) 2 ⟨rfl, rfl, rfl, .inl rfl, .inl rfl⟩ rfl k1 (.inr ⟨rfl, h0⟩)
    split
    · exact .wait (setOnce s op _) 1 ⟨rfl, rfl, rfl, .inl rfl, .inl rfl⟩ rfl k1 (.inl rfl)
    · exact .on (setOnce s op _) [] ⟨rfl, rfl, rfl, .inl rfl, .inl rfl⟩ (.inl ⟨rfl, k1⟩) List.nodup_nil (fun u hu => by cases hu)
  by_cases k5 : op.kind = 5
  · rw [if_neg k1, if_neg k2, if_neg k3, if_neg k4, if_pos k5, doAdd]
    obtain ⟨x, hx, hxa, ⟨ok1, ok2, ok3⟩, ha, hi⟩ := r.group (.inl k5)
    rw [hxa, Group.add]
    by_cases hc : isValue (x.count + op.arg) = true
    · rw [if_pos hc]
      by_cases h0 : x.count + op.arg = 0
      · rw [if_pos h0]
        exact .on (setGroup s op ⟨0, []⟩) x.waits ⟨rfl, rfl, rfl, .inl rfl, .inl rfl⟩ (.inl ⟨rfl, k1⟩) (distinct_nd ok2) (fun u hu h0 => (ofKey_map_nil (g := fun t : Int => t)).1 ((swap_groups hx x).none h0) (by simpa using hu))
      · rw [if_neg h0]
        exact .on (setGroup s op ⟨x.count + op.arg, x.waits⟩) [] ⟨rfl, rfl, rfl, .inl rfl, .inl rfl⟩ (.inl ⟨rfl, k1⟩) List.nodup_nil (fun u hu => by cases hu)
    · rw [if_neg hc]
      exact .fault 2 (by decide) k1
  by_cases k6 : op.kind = 6
  · rw [if_neg k1, if_neg k2, if_neg k3, if_neg k4, if_neg k5, if_pos k6, doWait]
    split
    · exact .on (setGroup s op _) [] ⟨rfl, rfl, rfl, .inl rfl, .inl rfl⟩ (.inl ⟨rfl, k1⟩) List.nodup_nil (fun u hu => by cases hu)
    · exact .wait (setGroup s op _) 1 ⟨rfl, rfl, rfl, .inl rfl, .inl rfl⟩ rfl k1 (.inl rfl)
  by_cases k7 : op.kind = 7
  · rw [if_neg k1, if_neg k2, if_neg k3, if_neg k4, if_neg k5, if_neg k6, if_pos k7, doArrive]
    obtain ⟨x, hx, hxa, ok, hi⟩ := r.barrier k7
    rw [hxa, Barrier.arrive] at hw ⊢
    by_cases hc : (x.waits.length : Int) + 1 < x.parties
    · rw [if_pos hc]
      exact .wait (setBarrier s op ⟨x.parties, x.round, x.waits ++ [(k : Int)]⟩) 1 ⟨rfl, rfl, rfl, .inl rfl, .inr ⟨_, rfl, by rw [hxa]; show x.round ≤ x.round + 1; omega⟩⟩ rfl k1 (.inl rfl)
    rw [if_neg hc] at hw ⊢
    by_cases h9 : x.round = 9999
    · exact (hw ⟨k7, if_pos h9⟩).elim
    rw [if_neg h9]
    have hne : ¬ x.waits ++ [(k : Int)] = [] := by simp
    simp only [if_neg hne]
    exact .on (setBarrier s op ⟨x.parties, x.round + 1, []⟩) x.waits ⟨rfl, rfl, rfl, .inl rfl, .inr ⟨_, rfl, by rw [hxa]; exact Int.le_refl _⟩⟩ (.inl ⟨rfl, k1⟩) (distinct_nd ok.2.2.2.2.2) (fun u hu h0 => (ofKey_map_nil (g := fun t : Int => t)).1 ((swap_barriers hx x).none h0) (by simpa using hu))
  by_cases k8 : op.kind = 8
  · rw [if_neg k1, if_neg k2, if_neg k3, if_neg k4, if_neg k5, if_neg k6, if_neg k7, if_pos k8, doSend]
    obtain ⟨x, hx, hxa, hv, hval, hi⟩ := r.chan (by omega)
    rw [hxa]
    by_cases hc : (x.send k op.arg).2.2.2 = true
    · obtain ⟨_, c1, c2, c3, c4⟩ := send_ok hc
      rw [if_pos hc]
      have hsd : x.send k op.arg = if h : 0 < x.getters.length then ({ x with getters := x.getters.drop 1 }, [x.getters[0]], true, true) else if (x.items.length : Int) < x.room then ({ x with items := x.items ++ [op.arg] }, [], true, true) else ({ x with senders := x.senders ++ [⟨(k : Int), op.arg⟩] }, [], false, true) := by
        rw [Chan.send, if_pos ⟨hv, c1, c2, c3, c4⟩]
      rw [hsd]
      by_cases hg : 0 < x.getters.length
      · simp only [dif_pos hg, if_true]
        rw [if_neg (by simp)]
        exact .on (sayM (setChan s op { x with getters := x.getters.drop 1 }) op.arg) [x.getters[0]] ⟨rfl, rfl, rfl, .inl rfl, .inl rfl⟩ (.inr ⟨_, rfl, .inl ⟨.inr k8, rfl⟩⟩) (by simp) (fun u hu h0 => chan_out ((swap_chans hx x).none h0) (List.mem_append_right _ (by rw [List.mem_singleton.1 hu]; exact List.getElem_mem hg)))
      · simp only [dif_neg hg]
        by_cases hr : (x.items.length : Int) < x.room
        · simp only [if_pos hr, if_true]
          exact .on (setChan s op { x with items := x.items ++ [op.arg] }) [] ⟨rfl, rfl, rfl, .inl rfl, .inl rfl⟩ (.inl ⟨rfl, k1⟩) List.nodup_nil (fun u hu => by cases hu)
        · simp only [if_neg hr, Bool.false_eq_true, if_false]
          exact .wait (setChan s op _) 1 ⟨rfl, rfl, rfl, .inl rfl, .inl rfl⟩ rfl k1 (.inl rfl)
    · rw [if_neg hc]
      exact .fault 3 (by decide) k1
  by_cases k9 : op.kind = 9
  · rw [if_neg k1, if_neg k2, if_neg k3, if_neg k4, if_neg k5, if_neg k6, if_neg k7, if_neg k8, if_pos k9, doGet]
    obtain ⟨x, hx, hxa, hv, hval, hi⟩ := r.chan (by omega)
    rw [hxa]
    have hok : x.Valid ∧ isThread (k : Int) = true ∧ ¬ (k : Int) ∈ x.threads := ⟨hv, r.thr, chan_out ((swap_chans hx x).none r.ev)⟩
    have hsd : x.get k = if 0 < x.gItems.length then ({ x with items := x.gItems.drop 1, senders := x.senders.drop 1 }, x.gItems.headD 0, 1, x.gWho, true) else if x.closed = true then ({ x with items := [], senders := [] }, 0, 2, [], true) else ({ x with items := [], senders := [], getters := x.getters ++ [(k : Int)] }, 0, 0, [], true) := by
      rw [Chan.get, if_pos hok]
    rw [hsd]
    by_cases hc : 0 < x.gItems.length
    · simp only [if_pos hc]
      rw [if_neg (by decide), if_pos trivial]
      exact .on (sayM (setChan s op { x with items := x.gItems.drop 1, senders := x.senders.drop 1 }) (x.gItems.headD 0)) x.gWho ⟨rfl, rfl, rfl, .inl rfl, .inl rfl⟩ (.inr ⟨_, rfl, .inr k9⟩) ((chan_nd hv).1.sublist ((List.take_sublist _ _).map _)) (fun u hu h0 => chan_out ((swap_chans hx x).none h0) (List.mem_append_left _ (((List.take_sublist _ _).map _).subset hu)))
    · simp only [if_neg hc]
      by_cases hcl : x.closed = true
      · simp only [if_pos hcl]
        rw [if_neg (by decide), if_neg (by decide)]
        exact .on (setChan s op { x with items := [], senders := [] }) [] ⟨rfl, rfl, rfl, .inl rfl, .inl rfl⟩ (.inl ⟨rfl, k1⟩) List.nodup_nil (fun u hu => by cases hu)
      · simp only [if_neg hcl]
        rw [if_pos trivial]
        exact .wait (setChan s op _) 1 ⟨rfl, rfl, rfl, .inl rfl, .inl rfl⟩ rfl k1 (.inl rfl)
  rw [if_neg k1, if_neg k2, if_neg k3, if_neg k4, if_neg k5, if_neg k6, if_neg k7, if_neg k8, if_neg k9, doClose]
  have h10 := r.ok.2.1
  have h11 := r.ok.1
  obtain ⟨x, hx, hxa, hv, hval, hi⟩ := r.chan (by omega)
  rw [hxa]
  by_cases hc : x.close.2.2 = true
  · obtain ⟨_, c1, c2⟩ := close_ok hc
    rw [if_pos hc]
    have hsd : x.close = ({ x with senders := [], getters := [], closed := true }, x.getters, true) := by
      rw [Chan.close, if_pos ⟨hv, c1, c2⟩]
    rw [hsd]
    exact .on (setChan s op { x with senders := [], getters := [], closed := true }) x.getters ⟨rfl, rfl, rfl, .inl rfl, .inl rfl⟩ (.inl ⟨rfl, k1⟩) (chan_nd hv).2 (fun u hu h0 => chan_out ((swap_chans hx x).none h0) (List.mem_append_right _ hu))
  · rw [if_neg hc]
    exact .fault 4 (by decide) k1

theorem Rdy.who {p : Prog} {s : State} {k : Nat} {ops : List Op} {a st : Int} {op : Op} (r : Rdy p s k ops a st op) {who : List Int} (nd : who.Nodup) (hw : ∀ u ∈ who, ofKey (events s) u ≠ []) : (who ++ [(k : Int)]).Nodup ∧ ∀ x ∈ who ++ [(k : Int)], 0 ≤ x := by
  refine ⟨?_, fun x hx => ?_⟩
  · rw [List.nodup_append]
    exact ⟨nd, by simp, fun x hx y hy => by simp at hy; subst hy; rintro rfl; exact hw _ hx r.ev⟩
  · rcases List.mem_append.1 hx with hx | hx
    · exact (r.ft.isIn (hw x hx)).1
    · simp at hx; omega

theorem Stp.said {p : Prog} {s : State} {k : Nat} {st : Int} {op : Op} {s' : State} (h : Stp p s k st op s') : SaidR op s s' := by
  cases h with
  | on s1 who hK hs nd hw =>
    rw [SaidR, onM_said]
    exact hs
  | wait s1 b hK hs h1 hb => exact .inl ⟨hs, h1⟩
  | fault f hf h1 => exact .inl ⟨rfl, h1⟩

theorem Stp.sems {p : Prog} {s : State} {k : Nat} {st : Int} {op : Op} {s' : State} (h : Stp p s k st op s') : s'.sems = s.sems ∨ (op.kind = 2 ∨ op.kind = 3) ∧ ∃ x, s'.sems = s.sems.set op.on.toNat x := by
  cases h with
  | on s1 who hK hs nd hw =>
    obtain ⟨pl, st', hE, _, _⟩ := onM_rest p (who ++ [(k : Int)]) s1
    rw [hE]
    exact hK.se
  | wait s1 b hK hs h1 hb => exact hK.se
  | fault f hf h1 => exact .inl rfl

theorem Stp.bars {p : Prog} {s : State} {k : Nat} {st : Int} {op : Op} {s' : State} (h : Stp p s k st op s') : s'.barriers = s.barriers ∨ ∃ x, s'.barriers = s.barriers.set op.on.toNat x ∧ x.round ≤ (barrierAt s op).round + 1 := by
  cases h with
  | on s1 who hK hs nd hw =>
    obtain ⟨pl, st', hE, _, _⟩ := onM_rest p (who ++ [(k : Int)]) s1
    rw [hE]
    exact hK.ba
  | wait s1 b hK hs h1 hb => exact hK.ba
  | fault f hf h1 => exact .inl rfl

theorem StepOk.rdy {p : Prog} {s : State} {t : Int} (h : StepOk p s t) : ∃ (k : Nat) (ops : List Op) (a st : Int) (op : Op), t = k ∧ Rdy p s k ops a st op ∧ Stp p s k st op (doM p s t) := by
  obtain ⟨h1, h2, h3, h4⟩ := stepOk_iff.1 h
  obtain ⟨k, ops, a, st, op, rfl, r⟩ := Go.Proofs.Ytjkkoonennpceaa.rdy h1 h2
  exact ⟨k, ops, a, st, op, rfl, r, r.stp h4⟩

/-- How far a barrier's rounds go. -/
def Rounds (s : State) (B : Int) : Prop := ∀ x ∈ s.barriers, x.round ≤ B

theorem Rounds.step {p : Prog} {s : State} {t B : Int} (h : StepOk p s t) (hB : 0 ≤ B) (hr : Rounds s B) : Rounds (doM p s t) (B + 1) := by
  obtain ⟨k, ops, a, st, op, rfl, r, hs⟩ := h.rdy
  intro x hx
  rcases hs.bars with e | ⟨y, e, hy⟩
  · rw [e] at hx
    have := hr x hx
    omega
  · rw [e] at hx
    rcases List.mem_or_eq_of_mem_set hx with hx | rfl
    · have := hr x hx
      omega
    · have hb : (barrierAt s op).round ≤ B := by
        rw [barrierAt, List.getD_eq_getElem?_getD]
        cases hc : s.barriers[op.on.toNat]? with
        | none => exact hB
        | some z => exact hr z (List.mem_of_getElem? hc)
      omega

end Go.Proofs.Ytjkkoonennpceaa

namespace Go.Proofs.Ytjkkoonennpceaa

open Go Go.Sx Go.RowKit

theorem small_of_20 {m : Chan} (h : m.small20) : m.small := ⟨Nat.le_trans h.1 (by decide), Nat.le_trans h.2.1 (by decide), Nat.le_trans h.2.2 (by decide)⟩

set_option maxHeartbeats 4000000 in
set_option maxRecDepth 100000 in
theorem eqfSem_c (h h2 : Sl) (xs ys : List SemH) (w : World) (hh : At w [fR (semsO h xs), fR (semsO h2 ys)]) (hl : xs.length ≤ 1048576) (hb : ∀ x ∈ xs, Sem.small20 x.m) (hb2 : ∀ x ∈ ys, Sem.small20 x.m) :
    Calls Try.prog 20 #[h.val xs.length, h2.val ys.length, .func (.func 21) #[] #[]] w (Ret w fun v L => v = .bool (decide (xs.map (·.m) = ys.map (·.m))) ∧ L = []) := by
  refine calls3 Try.func20 rfl tabOk w _ rfl _ rfl _ hh ⟨rfl, rfl, rfl, rfl, trivial⟩ _ _ _ (by decide) ?_
  refine CaseB.mk (fun g => ?_) (fun g => ?_)
  · have hne : xs.map (·.m) ≠ ys.map (·.m) := fun e => by
      have := congrArg List.length e
      simp at this g
      omega
    refine retw [] ⟨?_, rfl⟩ trivial rfl trivial (fun _ => rfl)
    simp [hne]
  · have hll : xs.length = ys.length := by simp at g; omega
    refine LoopW.mk ⟨{ k : Nat // k ≤ xs.length ∧ (xs.map (·.m)).take k = (ys.map (·.m)).take k },
      fun p => .mk [(1, .v (h2.val ys.length)), (2, .v (.func (.func 21) #[] #[])), (15, .v (h.val xs.length)), (16, .v (.int .i64 (xs.length : Int))), (17, .v (.int .i64 p.1))] 0 0 [] [] [fR (semsO h xs), fR (semsO h2 ys)],
      fun p => xs.length - p.1, ⟨0, Nat.zero_le _, rfl⟩, ?_, ?_⟩
    · refine weak_mk [0, 1] ?_ ?_ ?_ ?_ ?_ rfl rfl
      · repeat (first | exact trivial | refine ⟨⟨_, rfl, (by first | exact .of rfl | exact .lit rfl | exact .of (by first | (rfl)) | exact .lit (by first | (rfl))), (by first | exact trivial | exact Nat.le_of_ble_eq_true rfl | exact small1 rfl)⟩, ?_⟩)
      · repeat (first | exact trivial | refine ⟨⟨(by first | exact .head _ | exact .tail _ (.head _) | exact .tail _ (.tail _ (.head _)) | exact .tail _ (.tail _ (.tail _ (.head _))) | exact .tail _ (.tail _ (.tail _ (.tail _ (.head _)))) | exact .tail _ (.tail _ (.tail _ (.tail _ (.tail _ (.head _))))) | exact .tail _ (.tail _ (.tail _ (.tail _ (.tail _ (.tail _ (.head _)))))) | exact .tail _ (.tail _ (.tail _ (.tail _ (.tail _ (.tail _ (.tail _ (.head _))))))) | exact .tail _ (.tail _ (.tail _ (.tail _ (.tail _ (.tail _ (.tail _ (.tail _ (.head _)))))))) | exact .tail _ (.tail _ (.tail _ (.tail _ (.tail _ (.tail _ (.tail _ (.tail _ (.tail _ (.head _)))))))))), Nat.le_of_ble_eq_true rfl⟩, ?_⟩)
      · repeat (first | exact trivial | refine ⟨⟨_, rfl, (by first | exact .of rfl | exact .lit rfl | exact .of (by first | (rfl)) | exact .lit (by first | (rfl))), (by first | exact trivial | exact Nat.le_of_ble_eq_true rfl | exact small1 rfl)⟩, ?_⟩)
      · repeat (first | exact trivial | refine ⟨⟨_, rfl⟩, ?_⟩)
      · repeat (first | exact trivial | refine ⟨.inl ⟨_, rfl, (by first | rfl | (rfl))⟩, ?_⟩ | refine ⟨.inr ⟨Nat.le_of_ble_eq_true rfl, rfl, rfl, rfl, rfl⟩, ?_⟩)
    · rintro ⟨k, hk, he⟩
      refine CaseB.mk (fun g2 => ?_) (fun g2 => ?_)
      · have hlt : k < xs.length := by simpa using g2
        have hlt2 : k < ys.length := by omega
        obtain ⟨q1, q2⟩ := take_eq_succ he (by simpa using hlt) (by simpa using hlt2)
        simp only [List.getElem_map] at q1 q2
        refine stop_idx encSemH tabOk rfl rfl rfl rfl rfl ⟨rfl, rfl⟩ (rdVia 0 rfl (.ofR nest_h)) k rfl (by first | omega | (simp; done) | (simp; omega) | (unfold maxLen; omega) | (unfold maxLen; simp; done) | (unfold maxLen; simp; omega)) (fun ad => ?_)
        refine stop_idx encSemH tabOk rfl rfl rfl rfl rfl ⟨rfl, rfl⟩ (rdVia 1 rfl (.ofR nest_h)) k rfl (by first | omega | (simp; done) | (simp; omega) | (unfold maxLen; omega) | (unfold maxLen; simp; done) | (unfold maxLen; simp; omega)) (fun ad2 => ?_)
        refine stop_callV _ cl21 rfl rfl rfl rfl ⟨rfl, rfl⟩ (fun A w hW => (semSame_c _ _ _ _ w ⟨hW.get 0 rfl (.ofR (semsO_0 h xs k hlt)), hW.get 1 rfl (.ofR (semsO_0 h2 ys k hlt2)), trivial⟩ (Nat.le_trans (hb _ (List.getElem_mem hlt)) (by decide)) (Nat.le_trans (hb2 _ (List.getElem_mem hlt2)) (by decide)))) ?_
        rintro v L ⟨rfl, rfl⟩
        refine CaseB.mk (fun g3 => ?_) (fun g3 => ?_)
        · have hne := q2 (by simpa using g3)
          refine retw [] ⟨?_, rfl⟩ trivial rfl trivial (fun _ => rfl)
          simp [hne]
        · have heq := q1 (by simpa using g3)
          have hw := e_succ k _ hlt (by omega)
          refine ⟨⟨k + 1, by omega, heq⟩, ?_, by simp; omega⟩
          refine weak_mk [0, 1] ?_ ?_ ?_ ?_ ?_ rfl rfl
          · repeat (first | exact trivial | refine ⟨⟨_, rfl, (by first | exact .of rfl | exact .lit rfl | exact .of (by first | ((exact congrArg (fun z => SV.v (Value.int .i64 z)) hw))) | exact .lit (by first | ((exact congrArg (fun z => SV.v (Value.int .i64 z)) hw)))), (by first | exact trivial | exact Nat.le_of_ble_eq_true rfl | exact small1 rfl)⟩, ?_⟩)
          · repeat (first | exact trivial | refine ⟨⟨(by first | exact .head _ | exact .tail _ (.head _) | exact .tail _ (.tail _ (.head _)) | exact .tail _ (.tail _ (.tail _ (.head _))) | exact .tail _ (.tail _ (.tail _ (.tail _ (.head _)))) | exact .tail _ (.tail _ (.tail _ (.tail _ (.tail _ (.head _))))) | exact .tail _ (.tail _ (.tail _ (.tail _ (.tail _ (.tail _ (.head _)))))) | exact .tail _ (.tail _ (.tail _ (.tail _ (.tail _ (.tail _ (.tail _ (.head _))))))) | exact .tail _ (.tail _ (.tail _ (.tail _ (.tail _ (.tail _ (.tail _ (.tail _ (.head _)))))))) | exact .tail _ (.tail _ (.tail _ (.tail _ (.tail _ (.tail _ (.tail _ (.tail _ (.tail _ (.head _)))))))))), Nat.le_of_ble_eq_true rfl⟩, ?_⟩)
          · repeat (first | exact trivial | refine ⟨⟨_, rfl, (by first | exact .of rfl | exact .lit rfl | exact .of (by first | ((exact congrArg (fun z => SV.v (Value.int .i64 z)) hw))) | exact .lit (by first | ((exact congrArg (fun z => SV.v (Value.int .i64 z)) hw)))), (by first | exact trivial | exact Nat.le_of_ble_eq_true rfl | exact small1 rfl)⟩, ?_⟩)
          · repeat (first | exact trivial | refine ⟨⟨_, rfl⟩, ?_⟩)
          · repeat (first | exact trivial | refine ⟨.inl ⟨_, rfl, (by first | rfl | ((exact congrArg (fun z => SV.v (Value.int .i64 z)) hw)))⟩, ?_⟩ | refine ⟨.inr ⟨Nat.le_of_ble_eq_true rfl, rfl, rfl, rfl, rfl⟩, ?_⟩)
      · have hge : xs.length ≤ k := by simpa using g2
        have heq : xs.map (·.m) = ys.map (·.m) := by rw [List.take_of_length_le (by simpa using hge), List.take_of_length_le (by simp; omega)] at he; exact he
        refine retw [] ⟨?_, rfl⟩ trivial rfl trivial (fun _ => rfl)
        simp [heq]

set_option maxHeartbeats 4000000 in
set_option maxRecDepth 100000 in
theorem eqfOnce_c (h h2 : Sl) (xs ys : List OnceH) (w : World) (hh : At w [fR (oncesO h xs), fR (oncesO h2 ys)]) (hl : xs.length ≤ 1048576) (hb : ∀ x ∈ xs, Once.small20 x.m) (hb2 : ∀ x ∈ ys, Once.small20 x.m) :
    Calls Try.prog 22 #[h.val xs.length, h2.val ys.length, .func (.func 23) #[] #[]] w (Ret w fun v L => v = .bool (decide (xs.map (·.m) = ys.map (·.m))) ∧ L = []) := by
  refine calls3 Try.func22 rfl tabOk w _ rfl _ rfl _ hh ⟨rfl, rfl, rfl, rfl, trivial⟩ _ _ _ (by decide) ?_
  refine CaseB.mk (fun g => ?_) (fun g => ?_)
  · have hne : xs.map (·.m) ≠ ys.map (·.m) := fun e => by
      have := congrArg List.length e
      simp at this g
      omega
    refine retw [] ⟨?_, rfl⟩ trivial rfl trivial (fun _ => rfl)
    simp [hne]
  · have hll : xs.length = ys.length := by simp at g; omega
    refine LoopW.mk ⟨{ k : Nat // k ≤ xs.length ∧ (xs.map (·.m)).take k = (ys.map (·.m)).take k },
      fun p => .mk [(1, .v (h2.val ys.length)), (2, .v (.func (.func 23) #[] #[])), (15, .v (h.val xs.length)), (16, .v (.int .i64 (xs.length : Int))), (17, .v (.int .i64 p.1))] 0 0 [] [] [fR (oncesO h xs), fR (oncesO h2 ys)],
      fun p => xs.length - p.1, ⟨0, Nat.zero_le _, rfl⟩, ?_, ?_⟩
    · refine weak_mk [0, 1] ?_ ?_ ?_ ?_ ?_ rfl rfl
      · repeat (first | exact trivial | refine ⟨⟨_, rfl, (by first | exact .of rfl | exact .lit rfl | exact .of (by first | (rfl)) | exact .lit (by first | (rfl))), (by first | exact trivial | exact Nat.le_of_ble_eq_true rfl | exact small1 rfl)⟩, ?_⟩)
      · repeat (first | exact trivial | refine ⟨⟨(by first | exact .head _ | exact .tail _ (.head _) | exact .tail _ (.tail _ (.head _)) | exact .tail _ (.tail _ (.tail _ (.head _))) | exact .tail _ (.tail _ (.tail _ (.tail _ (.head _)))) | exact .tail _ (.tail _ (.tail _ (.tail _ (.tail _ (.head _))))) | exact .tail _ (.tail _ (.tail _ (.tail _ (.tail _ (.tail _ (.head _)))))) | exact .tail _ (.tail _ (.tail _ (.tail _ (.tail _ (.tail _ (.tail _ (.head _))))))) | exact .tail _ (.tail _ (.tail _ (.tail _ (.tail _ (.tail _ (.tail _ (.tail _ (.head _)))))))) | exact .tail _ (.tail _ (.tail _ (.tail _ (.tail _ (.tail _ (.tail _ (.tail _ (.tail _ (.head _)))))))))), Nat.le_of_ble_eq_true rfl⟩, ?_⟩)
      · repeat (first | exact trivial | refine ⟨⟨_, rfl, (by first | exact .of rfl | exact .lit rfl | exact .of (by first | (rfl)) | exact .lit (by first | (rfl))), (by first | exact trivial | exact Nat.le_of_ble_eq_true rfl | exact small1 rfl)⟩, ?_⟩)
      · repeat (first | exact trivial | refine ⟨⟨_, rfl⟩, ?_⟩)
      · repeat (first | exact trivial | refine ⟨.inl ⟨_, rfl, (by first | rfl | (rfl))⟩, ?_⟩ | refine ⟨.inr ⟨Nat.le_of_ble_eq_true rfl, rfl, rfl, rfl, rfl⟩, ?_⟩)
    · rintro ⟨k, hk, he⟩
      refine CaseB.mk (fun g2 => ?_) (fun g2 => ?_)
      · have hlt : k < xs.length := by simpa using g2
        have hlt2 : k < ys.length := by omega
        obtain ⟨q1, q2⟩ := take_eq_succ he (by simpa using hlt) (by simpa using hlt2)
        simp only [List.getElem_map] at q1 q2
        refine stop_idx encOnceH tabOk rfl rfl rfl rfl rfl ⟨rfl, rfl⟩ (rdVia 0 rfl (.ofR nest_h)) k rfl (by first | omega | (simp; done) | (simp; omega) | (unfold maxLen; omega) | (unfold maxLen; simp; done) | (unfold maxLen; simp; omega)) (fun ad => ?_)
        refine stop_idx encOnceH tabOk rfl rfl rfl rfl rfl ⟨rfl, rfl⟩ (rdVia 1 rfl (.ofR nest_h)) k rfl (by first | omega | (simp; done) | (simp; omega) | (unfold maxLen; omega) | (unfold maxLen; simp; done) | (unfold maxLen; simp; omega)) (fun ad2 => ?_)
        refine stop_callV _ cl23 rfl rfl rfl rfl ⟨rfl, rfl⟩ (fun A w hW => (onceSame_c _ _ _ _ w ⟨hW.get 0 rfl (.ofR (oncesO_0 h xs k hlt)), hW.get 1 rfl (.ofR (oncesO_0 h2 ys k hlt2)), trivial⟩ (Nat.le_trans (hb _ (List.getElem_mem hlt)) (by decide)) (Nat.le_trans (hb2 _ (List.getElem_mem hlt2)) (by decide)))) ?_
        rintro v L ⟨rfl, rfl⟩
        refine CaseB.mk (fun g3 => ?_) (fun g3 => ?_)
        · have hne := q2 (by simpa using g3)
          refine retw [] ⟨?_, rfl⟩ trivial rfl trivial (fun _ => rfl)
          simp [hne]
        · have heq := q1 (by simpa using g3)
          have hw := e_succ k _ hlt (by omega)
          refine ⟨⟨k + 1, by omega, heq⟩, ?_, by simp; omega⟩
          refine weak_mk [0, 1] ?_ ?_ ?_ ?_ ?_ rfl rfl
          · repeat (first | exact trivial | refine ⟨⟨_, rfl, (by first | exact .of rfl | exact .lit rfl | exact .of (by first | ((exact congrArg (fun z => SV.v (Value.int .i64 z)) hw))) | exact .lit (by first | ((exact congrArg (fun z => SV.v (Value.int .i64 z)) hw)))), (by first | exact trivial | exact Nat.le_of_ble_eq_true rfl | exact small1 rfl)⟩, ?_⟩)
          · repeat (first | exact trivial | refine ⟨⟨(by first | exact .head _ | exact .tail _ (.head _) | exact .tail _ (.tail _ (.head _)) | exact .tail _ (.tail _ (.tail _ (.head _))) | exact .tail _ (.tail _ (.tail _ (.tail _ (.head _)))) | exact .tail _ (.tail _ (.tail _ (.tail _ (.tail _ (.head _))))) | exact .tail _ (.tail _ (.tail _ (.tail _ (.tail _ (.tail _ (.head _)))))) | exact .tail _ (.tail _ (.tail _ (.tail _ (.tail _ (.tail _ (.tail _ (.head _))))))) | exact .tail _ (.tail _ (.tail _ (.tail _ (.tail _ (.tail _ (.tail _ (.tail _ (.head _)))))))) | exact .tail _ (.tail _ (.tail _ (.tail _ (.tail _ (.tail _ (.tail _ (.tail _ (.tail _ (.head _)))))))))), Nat.le_of_ble_eq_true rfl⟩, ?_⟩)
          · repeat (first | exact trivial | refine ⟨⟨_, rfl, (by first | exact .of rfl | exact .lit rfl | exact .of (by first | ((exact congrArg (fun z => SV.v (Value.int .i64 z)) hw))) | exact .lit (by first | ((exact congrArg (fun z => SV.v (Value.int .i64 z)) hw)))), (by first | exact trivial | exact Nat.le_of_ble_eq_true rfl | exact small1 rfl)⟩, ?_⟩)
          · repeat (first | exact trivial | refine ⟨⟨_, rfl⟩, ?_⟩)
          · repeat (first | exact trivial | refine ⟨.inl ⟨_, rfl, (by first | rfl | ((exact congrArg (fun z => SV.v (Value.int .i64 z)) hw)))⟩, ?_⟩ | refine ⟨.inr ⟨Nat.le_of_ble_eq_true rfl, rfl, rfl, rfl, rfl⟩, ?_⟩)
      · have hge : xs.length ≤ k := by simpa using g2
        have heq : xs.map (·.m) = ys.map (·.m) := by rw [List.take_of_length_le (by simpa using hge), List.take_of_length_le (by simp; omega)] at he; exact he
        refine retw [] ⟨?_, rfl⟩ trivial rfl trivial (fun _ => rfl)
        simp [heq]

set_option maxHeartbeats 4000000 in
set_option maxRecDepth 100000 in
theorem eqfGroup_c (h h2 : Sl) (xs ys : List GroupH) (w : World) (hh : At w [fR (groupsO h xs), fR (groupsO h2 ys)]) (hl : xs.length ≤ 1048576) (hb : ∀ x ∈ xs, Group.small20 x.m) (hb2 : ∀ x ∈ ys, Group.small20 x.m) :
    Calls Try.prog 24 #[h.val xs.length, h2.val ys.length, .func (.func 25) #[] #[]] w (Ret w fun v L => v = .bool (decide (xs.map (·.m) = ys.map (·.m))) ∧ L = []) := by
  refine calls3 Try.func24 rfl tabOk w _ rfl _ rfl _ hh ⟨rfl, rfl, rfl, rfl, trivial⟩ _ _ _ (by decide) ?_
  refine CaseB.mk (fun g => ?_) (fun g => ?_)
  · have hne : xs.map (·.m) ≠ ys.map (·.m) := fun e => by
      have := congrArg List.length e
      simp at this g
      omega
    refine retw [] ⟨?_, rfl⟩ trivial rfl trivial (fun _ => rfl)
    simp [hne]
  · have hll : xs.length = ys.length := by simp at g; omega
    refine LoopW.mk ⟨{ k : Nat // k ≤ xs.length ∧ (xs.map (·.m)).take k = (ys.map (·.m)).take k },
      fun p => .mk [(1, .v (h2.val ys.length)), (2, .v (.func (.func 25) #[] #[])), (15, .v (h.val xs.length)), (16, .v (.int .i64 (xs.length : Int))), (17, .v (.int .i64 p.1))] 0 0 [] [] [fR (groupsO h xs), fR (groupsO h2 ys)],
      fun p => xs.length - p.1, ⟨0, Nat.zero_le _, rfl⟩, ?_, ?_⟩
    · refine weak_mk [0, 1] ?_ ?_ ?_ ?_ ?_ rfl rfl
      · repeat (first | exact trivial | refine ⟨⟨_, rfl, (by first | exact .of rfl | exact .lit rfl | exact .of (by first | (rfl)) | exact .lit (by first | (rfl))), (by first | exact trivial | exact Nat.le_of_ble_eq_true rfl | exact small1 rfl)⟩, ?_⟩)
      · repeat (first | exact trivial | refine ⟨⟨(by first | exact .head _ | exact .tail _ (.head _) | exact .tail _ (.tail _ (.head _)) | exact .tail _ (.tail _ (.tail _ (.head _))) | exact .tail _ (.tail _ (.tail _ (.tail _ (.head _)))) | exact .tail _ (.tail _ (.tail _ (.tail _ (.tail _ (.head _))))) | exact .tail _ (.tail _ (.tail _ (.tail _ (.tail _ (.tail _ (.head _)))))) | exact .tail _ (.tail _ (.tail _ (.tail _ (.tail _ (.tail _ (.tail _ (.head _))))))) | exact .tail _ (.tail _ (.tail _ (.tail _ (.tail _ (.tail _ (.tail _ (.tail _ (.head _)))))))) | exact .tail _ (.tail _ (.tail _ (.tail _ (.tail _ (.tail _ (.tail _ (.tail _ (.tail _ (.head _)))))))))), Nat.le_of_ble_eq_true rfl⟩, ?_⟩)
      · repeat (first | exact trivial | refine ⟨⟨_, rfl, (by first | exact .of rfl | exact .lit rfl | exact .of (by first | (rfl)) | exact .lit (by first | (rfl))), (by first | exact trivial | exact Nat.le_of_ble_eq_true rfl | exact small1 rfl)⟩, ?_⟩)
      · repeat (first | exact trivial | refine ⟨⟨_, rfl⟩, ?_⟩)
      · repeat (first | exact trivial | refine ⟨.inl ⟨_, rfl, (by first | rfl | (rfl))⟩, ?_⟩ | refine ⟨.inr ⟨Nat.le_of_ble_eq_true rfl, rfl, rfl, rfl, rfl⟩, ?_⟩)
    · rintro ⟨k, hk, he⟩
      refine CaseB.mk (fun g2 => ?_) (fun g2 => ?_)
      · have hlt : k < xs.length := by simpa using g2
        have hlt2 : k < ys.length := by omega
        obtain ⟨q1, q2⟩ := take_eq_succ he (by simpa using hlt) (by simpa using hlt2)
        simp only [List.getElem_map] at q1 q2
        refine stop_idx encGroupH tabOk rfl rfl rfl rfl rfl ⟨rfl, rfl⟩ (rdVia 0 rfl (.ofR nest_h)) k rfl (by first | omega | (simp; done) | (simp; omega) | (unfold maxLen; omega) | (unfold maxLen; simp; done) | (unfold maxLen; simp; omega)) (fun ad => ?_)
        refine stop_idx encGroupH tabOk rfl rfl rfl rfl rfl ⟨rfl, rfl⟩ (rdVia 1 rfl (.ofR nest_h)) k rfl (by first | omega | (simp; done) | (simp; omega) | (unfold maxLen; omega) | (unfold maxLen; simp; done) | (unfold maxLen; simp; omega)) (fun ad2 => ?_)
        refine stop_callV _ cl25 rfl rfl rfl rfl ⟨rfl, rfl⟩ (fun A w hW => (groupSame_c _ _ _ _ w ⟨hW.get 0 rfl (.ofR (groupsO_0 h xs k hlt)), hW.get 1 rfl (.ofR (groupsO_0 h2 ys k hlt2)), trivial⟩ (Nat.le_trans (hb _ (List.getElem_mem hlt)) (by decide)) (Nat.le_trans (hb2 _ (List.getElem_mem hlt2)) (by decide)))) ?_
        rintro v L ⟨rfl, rfl⟩
        refine CaseB.mk (fun g3 => ?_) (fun g3 => ?_)
        · have hne := q2 (by simpa using g3)
          refine retw [] ⟨?_, rfl⟩ trivial rfl trivial (fun _ => rfl)
          simp [hne]
        · have heq := q1 (by simpa using g3)
          have hw := e_succ k _ hlt (by omega)
          refine ⟨⟨k + 1, by omega, heq⟩, ?_, by simp; omega⟩
          refine weak_mk [0, 1] ?_ ?_ ?_ ?_ ?_ rfl rfl
          · repeat (first | exact trivial | refine ⟨⟨_, rfl, (by first | exact .of rfl | exact .lit rfl | exact .of (by first | ((exact congrArg (fun z => SV.v (Value.int .i64 z)) hw))) | exact .lit (by first | ((exact congrArg (fun z => SV.v (Value.int .i64 z)) hw)))), (by first | exact trivial | exact Nat.le_of_ble_eq_true rfl | exact small1 rfl)⟩, ?_⟩)
          · repeat (first | exact trivial | refine ⟨⟨(by first | exact .head _ | exact .tail _ (.head _) | exact .tail _ (.tail _ (.head _)) | exact .tail _ (.tail _ (.tail _ (.head _))) | exact .tail _ (.tail _ (.tail _ (.tail _ (.head _)))) | exact .tail _ (.tail _ (.tail _ (.tail _ (.tail _ (.head _))))) | exact .tail _ (.tail _ (.tail _ (.tail _ (.tail _ (.tail _ (.head _)))))) | exact .tail _ (.tail _ (.tail _ (.tail _ (.tail _ (.tail _ (.tail _ (.head _))))))) | exact .tail _ (.tail _ (.tail _ (.tail _ (.tail _ (.tail _ (.tail _ (.tail _ (.head _)))))))) | exact .tail _ (.tail _ (.tail _ (.tail _ (.tail _ (.tail _ (.tail _ (.tail _ (.tail _ (.head _)))))))))), Nat.le_of_ble_eq_true rfl⟩, ?_⟩)
          · repeat (first | exact trivial | refine ⟨⟨_, rfl, (by first | exact .of rfl | exact .lit rfl | exact .of (by first | ((exact congrArg (fun z => SV.v (Value.int .i64 z)) hw))) | exact .lit (by first | ((exact congrArg (fun z => SV.v (Value.int .i64 z)) hw)))), (by first | exact trivial | exact Nat.le_of_ble_eq_true rfl | exact small1 rfl)⟩, ?_⟩)
          · repeat (first | exact trivial | refine ⟨⟨_, rfl⟩, ?_⟩)
          · repeat (first | exact trivial | refine ⟨.inl ⟨_, rfl, (by first | rfl | ((exact congrArg (fun z => SV.v (Value.int .i64 z)) hw)))⟩, ?_⟩ | refine ⟨.inr ⟨Nat.le_of_ble_eq_true rfl, rfl, rfl, rfl, rfl⟩, ?_⟩)
      · have hge : xs.length ≤ k := by simpa using g2
        have heq : xs.map (·.m) = ys.map (·.m) := by rw [List.take_of_length_le (by simpa using hge), List.take_of_length_le (by simp; omega)] at he; exact he
        refine retw [] ⟨?_, rfl⟩ trivial rfl trivial (fun _ => rfl)
        simp [heq]

set_option maxHeartbeats 4000000 in
set_option maxRecDepth 100000 in
theorem eqfBarrier_c (h h2 : Sl) (xs ys : List BarrierH) (w : World) (hh : At w [fR (barriersO h xs), fR (barriersO h2 ys)]) (hl : xs.length ≤ 1048576) (hb : ∀ x ∈ xs, Barrier.small20 x.m) (hb2 : ∀ x ∈ ys, Barrier.small20 x.m) :
    Calls Try.prog 26 #[h.val xs.length, h2.val ys.length, .func (.func 18) #[] #[]] w (Ret w fun v L => v = .bool (decide (xs.map (·.m) = ys.map (·.m))) ∧ L = []) := by
  refine calls3 Try.func26 rfl tabOk w _ rfl _ rfl _ hh ⟨rfl, rfl, rfl, rfl, trivial⟩ _ _ _ (by decide) ?_
  refine CaseB.mk (fun g => ?_) (fun g => ?_)
  · have hne : xs.map (·.m) ≠ ys.map (·.m) := fun e => by
      have := congrArg List.length e
      simp at this g
      omega
    refine retw [] ⟨?_, rfl⟩ trivial rfl trivial (fun _ => rfl)
    simp [hne]
  · have hll : xs.length = ys.length := by simp at g; omega
    refine LoopW.mk ⟨{ k : Nat // k ≤ xs.length ∧ (xs.map (·.m)).take k = (ys.map (·.m)).take k },
      fun p => .mk [(1, .v (h2.val ys.length)), (2, .v (.func (.func 18) #[] #[])), (15, .v (h.val xs.length)), (16, .v (.int .i64 (xs.length : Int))), (17, .v (.int .i64 p.1))] 0 0 [] [] [fR (barriersO h xs), fR (barriersO h2 ys)],
      fun p => xs.length - p.1, ⟨0, Nat.zero_le _, rfl⟩, ?_, ?_⟩
    · refine weak_mk [0, 1] ?_ ?_ ?_ ?_ ?_ rfl rfl
      · repeat (first | exact trivial | refine ⟨⟨_, rfl, (by first | exact .of rfl | exact .lit rfl | exact .of (by first | (rfl)) | exact .lit (by first | (rfl))), (by first | exact trivial | exact Nat.le_of_ble_eq_true rfl | exact small1 rfl)⟩, ?_⟩)
      · repeat (first | exact trivial | refine ⟨⟨(by first | exact .head _ | exact .tail _ (.head _) | exact .tail _ (.tail _ (.head _)) | exact .tail _ (.tail _ (.tail _ (.head _))) | exact .tail _ (.tail _ (.tail _ (.tail _ (.head _)))) | exact .tail _ (.tail _ (.tail _ (.tail _ (.tail _ (.head _))))) | exact .tail _ (.tail _ (.tail _ (.tail _ (.tail _ (.tail _ (.head _)))))) | exact .tail _ (.tail _ (.tail _ (.tail _ (.tail _ (.tail _ (.tail _ (.head _))))))) | exact .tail _ (.tail _ (.tail _ (.tail _ (.tail _ (.tail _ (.tail _ (.tail _ (.head _)))))))) | exact .tail _ (.tail _ (.tail _ (.tail _ (.tail _ (.tail _ (.tail _ (.tail _ (.tail _ (.head _)))))))))), Nat.le_of_ble_eq_true rfl⟩, ?_⟩)
      · repeat (first | exact trivial | refine ⟨⟨_, rfl, (by first | exact .of rfl | exact .lit rfl | exact .of (by first | (rfl)) | exact .lit (by first | (rfl))), (by first | exact trivial | exact Nat.le_of_ble_eq_true rfl | exact small1 rfl)⟩, ?_⟩)
      · repeat (first | exact trivial | refine ⟨⟨_, rfl⟩, ?_⟩)
      · repeat (first | exact trivial | refine ⟨.inl ⟨_, rfl, (by first | rfl | (rfl))⟩, ?_⟩ | refine ⟨.inr ⟨Nat.le_of_ble_eq_true rfl, rfl, rfl, rfl, rfl⟩, ?_⟩)
    · rintro ⟨k, hk, he⟩
      refine CaseB.mk (fun g2 => ?_) (fun g2 => ?_)
      · have hlt : k < xs.length := by simpa using g2
        have hlt2 : k < ys.length := by omega
        obtain ⟨q1, q2⟩ := take_eq_succ he (by simpa using hlt) (by simpa using hlt2)
        simp only [List.getElem_map] at q1 q2
        refine stop_idx encBarrierH tabOk rfl rfl rfl rfl rfl ⟨rfl, rfl⟩ (rdVia 0 rfl (.ofR nest_h)) k rfl (by first | omega | (simp; done) | (simp; omega) | (unfold maxLen; omega) | (unfold maxLen; simp; done) | (unfold maxLen; simp; omega)) (fun ad => ?_)
        refine stop_idx encBarrierH tabOk rfl rfl rfl rfl rfl ⟨rfl, rfl⟩ (rdVia 1 rfl (.ofR nest_h)) k rfl (by first | omega | (simp; done) | (simp; omega) | (unfold maxLen; omega) | (unfold maxLen; simp; done) | (unfold maxLen; simp; omega)) (fun ad2 => ?_)
        refine stop_callV _ cl18 rfl rfl rfl rfl ⟨rfl, rfl⟩ (fun A w hW => (barrierSame_c _ _ _ _ w ⟨hW.get 0 rfl (.ofR (barriersO_0 h xs k hlt)), hW.get 1 rfl (.ofR (barriersO_0 h2 ys k hlt2)), trivial⟩ (Nat.le_trans (hb _ (List.getElem_mem hlt)) (by decide)) (Nat.le_trans (hb2 _ (List.getElem_mem hlt2)) (by decide)))) ?_
        rintro v L ⟨rfl, rfl⟩
        refine CaseB.mk (fun g3 => ?_) (fun g3 => ?_)
        · have hne := q2 (by simpa using g3)
          refine retw [] ⟨?_, rfl⟩ trivial rfl trivial (fun _ => rfl)
          simp [hne]
        · have heq := q1 (by simpa using g3)
          have hw := e_succ k _ hlt (by omega)
          refine ⟨⟨k + 1, by omega, heq⟩, ?_, by simp; omega⟩
          refine weak_mk [0, 1] ?_ ?_ ?_ ?_ ?_ rfl rfl
          · repeat (first | exact trivial | refine ⟨⟨_, rfl, (by first | exact .of rfl | exact .lit rfl | exact .of (by first | ((exact congrArg (fun z => SV.v (Value.int .i64 z)) hw))) | exact .lit (by first | ((exact congrArg (fun z => SV.v (Value.int .i64 z)) hw)))), (by first | exact trivial | exact Nat.le_of_ble_eq_true rfl | exact small1 rfl)⟩, ?_⟩)
          · repeat (first | exact trivial | refine ⟨⟨(by first | exact .head _ | exact .tail _ (.head _) | exact .tail _ (.tail _ (.head _)) | exact .tail _ (.tail _ (.tail _ (.head _))) | exact .tail _ (.tail _ (.tail _ (.tail _ (.head _)))) | exact .tail _ (.tail _ (.tail _ (.tail _ (.tail _ (.head _))))) | exact .tail _ (.tail _ (.tail _ (.tail _ (.tail _ (.tail _ (.head _)))))) | exact .tail _ (.tail _ (.tail _ (.tail _ (.tail _ (.tail _ (.tail _ (.head _))))))) | exact .tail _ (.tail _ (.tail _ (.tail _ (.tail _ (.tail _ (.tail _ (.tail _ (.head _)))))))) | exact .tail _ (.tail _ (.tail _ (.tail _ (.tail _ (.tail _ (.tail _ (.tail _ (.tail _ (.head _)))))))))), Nat.le_of_ble_eq_true rfl⟩, ?_⟩)
          · repeat (first | exact trivial | refine ⟨⟨_, rfl, (by first | exact .of rfl | exact .lit rfl | exact .of (by first | ((exact congrArg (fun z => SV.v (Value.int .i64 z)) hw))) | exact .lit (by first | ((exact congrArg (fun z => SV.v (Value.int .i64 z)) hw)))), (by first | exact trivial | exact Nat.le_of_ble_eq_true rfl | exact small1 rfl)⟩, ?_⟩)
          · repeat (first | exact trivial | refine ⟨⟨_, rfl⟩, ?_⟩)
          · repeat (first | exact trivial | refine ⟨.inl ⟨_, rfl, (by first | rfl | ((exact congrArg (fun z => SV.v (Value.int .i64 z)) hw)))⟩, ?_⟩ | refine ⟨.inr ⟨Nat.le_of_ble_eq_true rfl, rfl, rfl, rfl, rfl⟩, ?_⟩)
      · have hge : xs.length ≤ k := by simpa using g2
        have heq : xs.map (·.m) = ys.map (·.m) := by rw [List.take_of_length_le (by simpa using hge), List.take_of_length_le (by simp; omega)] at he; exact he
        refine retw [] ⟨?_, rfl⟩ trivial rfl trivial (fun _ => rfl)
        simp [heq]

set_option maxHeartbeats 4000000 in
set_option maxRecDepth 100000 in
theorem eqfChan_c (h h2 : Sl) (xs ys : List ChanH) (w : World) (hh : At w [fR (chansO h xs), fR (chansO h2 ys)]) (hl : xs.length ≤ 1048576) (hb : ∀ x ∈ xs, Chan.small20 x.m) (hb2 : ∀ x ∈ ys, Chan.small20 x.m) :
    Calls Try.prog 27 #[h.val xs.length, h2.val ys.length, .func (.func 28) #[] #[]] w (Ret w fun v L => v = .bool (decide (xs.map (·.m) = ys.map (·.m))) ∧ L = []) := by
  refine calls3 Try.func27 rfl tabOk w _ rfl _ rfl _ hh ⟨rfl, rfl, rfl, rfl, trivial⟩ _ _ _ (by decide) ?_
  refine CaseB.mk (fun g => ?_) (fun g => ?_)
  · have hne : xs.map (·.m) ≠ ys.map (·.m) := fun e => by
      have := congrArg List.length e
      simp at this g
      omega
    refine retw [] ⟨?_, rfl⟩ trivial rfl trivial (fun _ => rfl)
    simp [hne]
  · have hll : xs.length = ys.length := by simp at g; omega
    refine LoopW.mk ⟨{ k : Nat // k ≤ xs.length ∧ (xs.map (·.m)).take k = (ys.map (·.m)).take k },
      fun p => .mk [(1, .v (h2.val ys.length)), (2, .v (.func (.func 28) #[] #[])), (15, .v (h.val xs.length)), (16, .v (.int .i64 (xs.length : Int))), (17, .v (.int .i64 p.1))] 0 0 [] [] [fR (chansO h xs), fR (chansO h2 ys)],
      fun p => xs.length - p.1, ⟨0, Nat.zero_le _, rfl⟩, ?_, ?_⟩
    · refine weak_mk [0, 1] ?_ ?_ ?_ ?_ ?_ rfl rfl
      · repeat (first | exact trivial | refine ⟨⟨_, rfl, (by first | exact .of rfl | exact .lit rfl | exact .of (by first | (rfl)) | exact .lit (by first | (rfl))), (by first | exact trivial | exact Nat.le_of_ble_eq_true rfl | exact small1 rfl)⟩, ?_⟩)
      · repeat (first | exact trivial | refine ⟨⟨(by first | exact .head _ | exact .tail _ (.head _) | exact .tail _ (.tail _ (.head _)) | exact .tail _ (.tail _ (.tail _ (.head _))) | exact .tail _ (.tail _ (.tail _ (.tail _ (.head _)))) | exact .tail _ (.tail _ (.tail _ (.tail _ (.tail _ (.head _))))) | exact .tail _ (.tail _ (.tail _ (.tail _ (.tail _ (.tail _ (.head _)))))) | exact .tail _ (.tail _ (.tail _ (.tail _ (.tail _ (.tail _ (.tail _ (.head _))))))) | exact .tail _ (.tail _ (.tail _ (.tail _ (.tail _ (.tail _ (.tail _ (.tail _ (.head _)))))))) | exact .tail _ (.tail _ (.tail _ (.tail _ (.tail _ (.tail _ (.tail _ (.tail _ (.tail _ (.head _)))))))))), Nat.le_of_ble_eq_true rfl⟩, ?_⟩)
      · repeat (first | exact trivial | refine ⟨⟨_, rfl, (by first | exact .of rfl | exact .lit rfl | exact .of (by first | (rfl)) | exact .lit (by first | (rfl))), (by first | exact trivial | exact Nat.le_of_ble_eq_true rfl | exact small1 rfl)⟩, ?_⟩)
      · repeat (first | exact trivial | refine ⟨⟨_, rfl⟩, ?_⟩)
      · repeat (first | exact trivial | refine ⟨.inl ⟨_, rfl, (by first | rfl | (rfl))⟩, ?_⟩ | refine ⟨.inr ⟨Nat.le_of_ble_eq_true rfl, rfl, rfl, rfl, rfl⟩, ?_⟩)
    · rintro ⟨k, hk, he⟩
      refine CaseB.mk (fun g2 => ?_) (fun g2 => ?_)
      · have hlt : k < xs.length := by simpa using g2
        have hlt2 : k < ys.length := by omega
        obtain ⟨q1, q2⟩ := take_eq_succ he (by simpa using hlt) (by simpa using hlt2)
        simp only [List.getElem_map] at q1 q2
        refine stop_idx encChanH tabOk rfl rfl rfl rfl rfl ⟨rfl, rfl⟩ (rdVia 0 rfl (.ofR nest_h)) k rfl (by first | omega | (simp; done) | (simp; omega) | (unfold maxLen; omega) | (unfold maxLen; simp; done) | (unfold maxLen; simp; omega)) (fun ad => ?_)
        refine stop_idx encChanH tabOk rfl rfl rfl rfl rfl ⟨rfl, rfl⟩ (rdVia 1 rfl (.ofR nest_h)) k rfl (by first | omega | (simp; done) | (simp; omega) | (unfold maxLen; omega) | (unfold maxLen; simp; done) | (unfold maxLen; simp; omega)) (fun ad2 => ?_)
        refine stop_callV _ cl28 rfl rfl rfl rfl ⟨rfl, rfl⟩ (fun A w hW => (same_c _ _ _ _ _ _ _ _ w ⟨hW.get 0 rfl (.ofR (chansO_0 h xs k hlt)), hW.get 0 rfl (.ofR (chansO_1 h xs k hlt)), hW.get 0 rfl (.ofR (chansO_2 h xs k hlt)), hW.get 1 rfl (.ofR (chansO_0 h2 ys k hlt2)), hW.get 1 rfl (.ofR (chansO_1 h2 ys k hlt2)), hW.get 1 rfl (.ofR (chansO_2 h2 ys k hlt2)), trivial⟩ (small_of_20 (hb _ (List.getElem_mem hlt))) (small_of_20 (hb2 _ (List.getElem_mem hlt2))))) ?_
        rintro v L ⟨rfl, rfl⟩
        refine CaseB.mk (fun g3 => ?_) (fun g3 => ?_)
        · have hne := q2 (by simpa using g3)
          refine retw [] ⟨?_, rfl⟩ trivial rfl trivial (fun _ => rfl)
          simp [hne]
        · have heq := q1 (by simpa using g3)
          have hw := e_succ k _ hlt (by omega)
          refine ⟨⟨k + 1, by omega, heq⟩, ?_, by simp; omega⟩
          refine weak_mk [0, 1] ?_ ?_ ?_ ?_ ?_ rfl rfl
          · repeat (first | exact trivial | refine ⟨⟨_, rfl, (by first | exact .of rfl | exact .lit rfl | exact .of (by first | ((exact congrArg (fun z => SV.v (Value.int .i64 z)) hw))) | exact .lit (by first | ((exact congrArg (fun z => SV.v (Value.int .i64 z)) hw)))), (by first | exact trivial | exact Nat.le_of_ble_eq_true rfl | exact small1 rfl)⟩, ?_⟩)
          · repeat (first | exact trivial | refine ⟨⟨(by first | exact .head _ | exact .tail _ (.head _) | exact .tail _ (.tail _ (.head _)) | exact .tail _ (.tail _ (.tail _ (.head _))) | exact .tail _ (.tail _ (.tail _ (.tail _ (.head _)))) | exact .tail _ (.tail _ (.tail _ (.tail _ (.tail _ (.head _))))) | exact .tail _ (.tail _ (.tail _ (.tail _ (.tail _ (.tail _ (.head _)))))) | exact .tail _ (.tail _ (.tail _ (.tail _ (.tail _ (.tail _ (.tail _ (.head _))))))) | exact .tail _ (.tail _ (.tail _ (.tail _ (.tail _ (.tail _ (.tail _ (.tail _ (.head _)))))))) | exact .tail _ (.tail _ (.tail _ (.tail _ (.tail _ (.tail _ (.tail _ (.tail _ (.tail _ (.head _)))))))))), Nat.le_of_ble_eq_true rfl⟩, ?_⟩)
          · repeat (first | exact trivial | refine ⟨⟨_, rfl, (by first | exact .of rfl | exact .lit rfl | exact .of (by first | ((exact congrArg (fun z => SV.v (Value.int .i64 z)) hw))) | exact .lit (by first | ((exact congrArg (fun z => SV.v (Value.int .i64 z)) hw)))), (by first | exact trivial | exact Nat.le_of_ble_eq_true rfl | exact small1 rfl)⟩, ?_⟩)
          · repeat (first | exact trivial | refine ⟨⟨_, rfl⟩, ?_⟩)
          · repeat (first | exact trivial | refine ⟨.inl ⟨_, rfl, (by first | rfl | ((exact congrArg (fun z => SV.v (Value.int .i64 z)) hw)))⟩, ?_⟩ | refine ⟨.inr ⟨Nat.le_of_ble_eq_true rfl, rfl, rfl, rfl, rfl⟩, ?_⟩)
      · have hge : xs.length ≤ k := by simpa using g2
        have heq : xs.map (·.m) = ys.map (·.m) := by rw [List.take_of_length_le (by simpa using hge), List.take_of_length_le (by simp; omega)] at he; exact he
        refine retw [] ⟨?_, rfl⟩ trivial rfl trivial (fun _ => rfl)
        simp [heq]

theorem state_eq (s t : StateH) : s.pure = t.pure ↔ s.places = t.places ∧ s.status = t.status ∧ s.sems.map (·.m) = t.sems.map (·.m) ∧ s.onces.map (·.m) = t.onces.map (·.m) ∧ s.groups.map (·.m) = t.groups.map (·.m) ∧ s.barriers.map (·.m) = t.barriers.map (·.m) ∧ s.chans.map (·.m) = t.chans.map (·.m) ∧ s.said = t.said ∧ s.fault = t.fault := by
  simp only [StateH.pure, State.mk.injEq]

set_option maxHeartbeats 16000000 in
set_option maxRecDepth 100000 in
theorem stateSame_c (s t : StateH) (w : World) (h : At w [fR (stateO s), fR (stateO t)]) (hb : s.pure.small20) (hb2 : t.pure.small20) :
    Calls Try.prog 7 #[stateV s, stateV t] w (Ret w fun v L => v = .bool (decide (s.pure = t.pure)) ∧ L = []) := by
  have hx := state_eq s t
  obtain ⟨b0, b1, b2, b3, b4, b5, b6, b7⟩ := hb
  obtain ⟨c0, c1, c2, c3, c4, c5, c6, c7⟩ := hb2
  refine calls2 Try.func7 rfl tabOk w _ rfl _ rfl _ h ⟨rfl, rfl, rfl, rfl, trivial⟩ _ _ (by decide) ?_
  refine stop_call _ cl19 rfl rfl rfl rfl ⟨rfl, rfl⟩ (fun A w hW => eqInts_c s.h0 t.h0 s.places t.places w ⟨hW.get 0 rfl (.ofR (stateO_places s)), hW.get 1 rfl (.ofR (stateO_places t)), trivial⟩ (Nat.le_trans b0 (by decide)) (Nat.le_trans c0 (by decide))) ?_
  rintro v L ⟨rfl, rfl⟩
  refine CaseB.mk (fun h0 => ?_) (fun h0 => ?_)
  rotate_left
  · have g : ¬ s.pure = t.pure := fun e => by rw [hx] at e; simp [e] at h0
    exact retw [] ⟨by simp [g], rfl⟩ trivial rfl trivial (fun _ => rfl)
  refine stop_call _ cl19 rfl rfl rfl rfl ⟨rfl, rfl⟩ (fun A w hW => eqInts_c s.h1 t.h1 s.status t.status w ⟨hW.get 0 rfl (.ofR (stateO_status s)), hW.get 1 rfl (.ofR (stateO_status t)), trivial⟩ (Nat.le_trans b1 (by decide)) (Nat.le_trans c1 (by decide))) ?_
  rintro v L ⟨rfl, rfl⟩
  refine CaseB.mk (fun h1 => ?_) (fun h1 => ?_)
  rotate_left
  · have g : ¬ s.pure = t.pure := fun e => by rw [hx] at e; simp [e] at h1
    exact retw [] ⟨by simp [g], rfl⟩ trivial rfl trivial (fun _ => rfl)
  refine stop_call _ cl20 rfl rfl rfl rfl ⟨rfl, rfl⟩ (fun A w hW => eqfSem_c s.h2 t.h2 s.sems t.sems w ⟨hW.get 0 rfl (.R_R (stateO_sems s)), hW.get 1 rfl (.R_R (stateO_sems t)), trivial⟩ (allS_map b2).1 (allS_map b2).2 (allS_map c2).2) ?_
  rintro v L ⟨rfl, rfl⟩
  refine CaseB.mk (fun h2 => ?_) (fun h2 => ?_)
  rotate_left
  · have g : ¬ s.pure = t.pure := fun e => by rw [hx] at e; simp [e] at h2
    exact retw [] ⟨by simp [g], rfl⟩ trivial rfl trivial (fun _ => rfl)
  refine stop_call _ cl22 rfl rfl rfl rfl ⟨rfl, rfl⟩ (fun A w hW => eqfOnce_c s.h3 t.h3 s.onces t.onces w ⟨hW.get 0 rfl (.R_R (stateO_onces s)), hW.get 1 rfl (.R_R (stateO_onces t)), trivial⟩ (allS_map b3).1 (allS_map b3).2 (allS_map c3).2) ?_
  rintro v L ⟨rfl, rfl⟩
  refine CaseB.mk (fun h3 => ?_) (fun h3 => ?_)
  rotate_left
  · have g : ¬ s.pure = t.pure := fun e => by rw [hx] at e; simp [e] at h3
    exact retw [] ⟨by simp [g], rfl⟩ trivial rfl trivial (fun _ => rfl)
  refine stop_call _ cl24 rfl rfl rfl rfl ⟨rfl, rfl⟩ (fun A w hW => eqfGroup_c s.h4 t.h4 s.groups t.groups w ⟨hW.get 0 rfl (.R_R (stateO_groups s)), hW.get 1 rfl (.R_R (stateO_groups t)), trivial⟩ (allS_map b4).1 (allS_map b4).2 (allS_map c4).2) ?_
  rintro v L ⟨rfl, rfl⟩
  refine CaseB.mk (fun h4 => ?_) (fun h4 => ?_)
  rotate_left
  · have g : ¬ s.pure = t.pure := fun e => by rw [hx] at e; simp [e] at h4
    exact retw [] ⟨by simp [g], rfl⟩ trivial rfl trivial (fun _ => rfl)
  refine stop_call _ cl26 rfl rfl rfl rfl ⟨rfl, rfl⟩ (fun A w hW => eqfBarrier_c s.h5 t.h5 s.barriers t.barriers w ⟨hW.get 0 rfl (.R_R (stateO_barriers s)), hW.get 1 rfl (.R_R (stateO_barriers t)), trivial⟩ (allS_map b5).1 (allS_map b5).2 (allS_map c5).2) ?_
  rintro v L ⟨rfl, rfl⟩
  refine CaseB.mk (fun h5 => ?_) (fun h5 => ?_)
  rotate_left
  · have g : ¬ s.pure = t.pure := fun e => by rw [hx] at e; simp [e] at h5
    exact retw [] ⟨by simp [g], rfl⟩ trivial rfl trivial (fun _ => rfl)
  refine stop_call _ cl27 rfl rfl rfl rfl ⟨rfl, rfl⟩ (fun A w hW => eqfChan_c s.h6 t.h6 s.chans t.chans w ⟨hW.get 0 rfl (.R_R (stateO_chans s)), hW.get 1 rfl (.R_R (stateO_chans t)), trivial⟩ (allS_map b6).1 (allS_map b6).2 (allS_map c6).2) ?_
  rintro v L ⟨rfl, rfl⟩
  refine CaseB.mk (fun h6 => ?_) (fun h6 => ?_)
  rotate_left
  · have g : ¬ s.pure = t.pure := fun e => by rw [hx] at e; simp [e] at h6
    exact retw [] ⟨by simp [g], rfl⟩ trivial rfl trivial (fun _ => rfl)
  refine stop_call _ cl19 rfl rfl rfl rfl ⟨rfl, rfl⟩ (fun A w hW => eqInts_c s.h7 t.h7 s.said t.said w ⟨hW.get 0 rfl (.ofR (stateO_said s)), hW.get 1 rfl (.ofR (stateO_said t)), trivial⟩ (Nat.le_trans b7 (by decide)) (Nat.le_trans c7 (by decide))) ?_
  rintro v L ⟨rfl, rfl⟩
  refine CaseB.mk (fun h7 => ?_) (fun h7 => ?_)
  rotate_left
  · have g : ¬ s.pure = t.pure := fun e => by rw [hx] at e; simp [e] at h7
    exact retw [] ⟨by simp [g], rfl⟩ trivial rfl trivial (fun _ => rfl)
  refine retw [] ⟨?_, rfl⟩ trivial rfl trivial (fun _ => rfl)
  simp only [decide_eq_true_eq] at h0 h1 h2 h3 h4 h5 h6 h7
  have e : (s.pure = t.pure) ↔ s.fault = t.fault := by rw [hx]; simp [h0, h1, h2, h3, h4, h5, h6, h7]
  show Value.bool (s.fault == t.fault) = _
  rw [decide_eq_decide.2 e]; rfl

end Go.Proofs.Ytjkkoonennpceaa

namespace Go.Proofs.Ytjkkoonennpceaa

open Go Go.Sx Go.RowKit

section

variable {T T' : List (Nat × SV)}

theorem look_cons (h : Sx.look T' = Sx.look T) (d : Nat) (s : SV) : Sx.look ((d, s) :: T') = Sx.look ((d, s) :: T) := by
  funext k
  simp only [Sx.look, h]

theorem evalO_cg (h : Sx.look T' = Sx.look T) : evalO T' = evalO T := by
  funext x
  cases x <;> simp only [evalO, h]

theorem evalV_cg (h : Sx.look T' = Sx.look T) : evalV T' = evalV T := by
  funext x
  simp only [evalV, evalO_cg h]

theorem capsOf_cg (h : Sx.look T' = Sx.look T) : capsOf T' = capsOf T := by
  funext xs
  induction xs with
  | nil => rfl
  | cons x r ih => simp only [capsOf, evalO_cg h, ih]

theorem pBuildGo_cg (h : Sx.look T' = Sx.look T) (fs : List (Nat × Nat × Bool)) (ps : List (Nat × Operand)) : ∀ cs, pBuildGo fs T' cs ps = pBuildGo fs T cs ps := by
  induction ps with
  | nil => intro cs; simp only [pBuildGo]
  | cons x r ih =>
    intro cs
    obtain ⟨i, x⟩ := x
    simp only [pBuildGo, evalV_cg h, ih]

theorem bParts_cg (h : Sx.look T' = Sx.look T) (esz : Nat) (ps : List (Nat × Operand)) : ∀ i, bParts T' esz i ps = bParts T esz i ps := by
  induction ps with
  | nil => intro i; simp only [bParts]
  | cons x r ih =>
    intro i
    obtain ⟨j, x⟩ := x
    simp only [bParts, evalV_cg h, ih]

theorem pureV_cg (h : Sx.look T' = Sx.look T) (ti : Nat → TI) (c : Nat) (M : List ((Nat × Nat) × SV)) (op : Go.Op) : pureV ti T' c M op = pureV ti T c M op := by
  cases op <;> simp only [pureV, pMove, pPick, pExtract, pField, pFieldAddr, pLoad, pBin, pUn, pConv, pLen, pFunc, pNil, pBuild, evalO_cg h, evalV_cg h, capsOf_cg h, pBuildGo_cg h]

theorem guardSt_cg (h : Sx.look T' = Sx.look T) (ops : List Oper) (g : Option (Nat × Bool)) : guardSt ops T' g = guardSt ops T g := by
  cases g with
  | none => rfl
  | some g => obtain ⟨j, want⟩ := g; simp only [guardSt, gval, h]

theorem pickFrom_cg (h : Sx.look T' = Sx.look T) (ti : Nat → TI) (ops : List Oper) (c : Nat) (Ms : List ((Nat × Nat) × SV)) : ∀ l, pickFrom ti ops T' c Ms l = pickFrom ti ops T c Ms l
  | [] => rfl
  | i :: r => by simp only [pickFrom, guardSt_cg h, pureV_cg h, pickFrom_cg h ti ops c Ms r]

theorem TD.cg (h : Sx.look T' = Sx.look T) {E : Env} {A : Nat → Nat} {n c : Nat} {a : Act} {w : World} (k : TD E A T' n c a w) : TD E A T n c a w := ⟨k.size, k.defers, fun t v hv => k.tm t v (by rw [h]; exact hv)⟩

end

theorem WD.perm {E : Env} {A : Nat → Nat} {n : Nat} {B : List (Nat × TypeId × Nat)} {M : List ((Nat × Nat) × SV)} {Zs Zs' : List Fct} {w : World} (h : Zs'.Perm Zs) (k : WD E A n B M Zs' w) : WD E A n B M Zs w :=
  ⟨k.key, k.inj, k.mem, k.a0, k.n0, k.ext, fun f hf => k.fct f (h.mem_iff.2 hf), (h.pairwise_iff (fun h => Dj.symm h)).1 k.dj⟩

/-- What stands in a state stands in one whose slots and rows lie in another order. -/
def PermOk (K : St → Prop) : Prop := ∀ (T T' : List (Nat × SV)) (n c : Nat) (B : List (Nat × TypeId × Nat)) (M : List ((Nat × Nat) × SV)) (Zs Zs' : List Fct), Sx.look T' = Sx.look T → Zs'.Perm Zs → K (.mk T n c B M Zs) → K (.mk T' n c B M Zs')

theorem opD_perm {E : Env} {o : Oper} {Ms : List ((Nat × Nat) × SV)} {Fs : List Fct} {next : St → Prop} {T T' : List (Nat × SV)} {n c : Nat} {B : List (Nat × TypeId × Nat)} {M : List ((Nat × Nat) × SV)} {Zs Zs' : List Fct} (h : Sx.look T' = Sx.look T) (hp : Zs'.Perm Zs) (k : OpW (opD E o Ms Fs next T n c B M Zs)) : OpW (opD E o Ms Fs next T' n c B M Zs') :=
  ⟨fun hm hf A a w hW hT => k.out hm (fun f hf' => hp.mem_iff.1 (hf f hf')) A a w (WD.perm hp hW) (TD.cg h hT)⟩

theorem effD_perm {E : Env} {ti : Nat → TI} {o : Oper} {Ms : List ((Nat × Nat) × SV)} {Fs : List Fct} {next : St → Prop} (hn : PermOk next) {T T' : List (Nat × SV)} {n c : Nat} {B : List (Nat × TypeId × Nat)} {M : List ((Nat × Nat) × SV)} {Zs Zs' : List Fct} (h : Sx.look T' = Sx.look T) (hp : Zs'.Perm Zs) (op : Go.Op) (k : effD E ti o Ms Fs next T n c B M Zs op) : effD E ti o Ms Fs next T' n c B M Zs' op := by
  cases op with
  | alloc t =>
    simp only [effD] at k ⊢
    cases hti : ti t with
    | none => simp only [hti] at k
    | mk agg sz zero fs el ik kk b8 =>
      simp only [hti] at k ⊢
      cases hd : o.dst with
      | none => simp only [hd] at k
      | some d =>
        simp only [hd] at k ⊢
        cases h1 : Nat.blt d E.N with
        | false => simp only [h1] at k
        | true =>
          simp only [h1] at k ⊢
          cases h2 : Nat.beq (listLen zero) sz with
          | false => simp only [h2] at k
          | true =>
            simp only [h2, storeK_eq] at k ⊢
            exact hn _ _ _ _ _ _ _ _ (look_cons h _ _) hp k
  | load t x =>
    have e : pLoad (ti t) T' c M x = pLoad (ti t) T c M x := by simp only [pLoad, evalO_cg h]
    simp only [effD, e] at k ⊢
    cases hs : pLoad (ti t) T c M x with
    | none =>
      simp only [hs] at k ⊢
      exact opD_perm h hp k
    | some s =>
      simp only [hs] at k ⊢
      cases hd : o.dst with
      | none => simp only [hd] at k
      | some d =>
        simp only [hd] at k ⊢
        cases h1 : Nat.blt d E.N with
        | false => simp only [h1] at k
        | true =>
          simp only [h1] at k ⊢
          cases s with
          | e a b c d => exact k
          | _ => exact hn _ _ _ _ _ _ _ _ (look_cons h _ _) hp k
  | store t x y =>
    simp only [effD, evalO_cg h] at k ⊢
    cases hd : o.dst with
    | some d => simp only [hd] at k
    | none =>
      simp only [hd] at k ⊢
      cases hx : evalO T x with
      | none =>
        simp only [hx] at k ⊢
        exact opD_perm h hp k
      | some v =>
        cases v with
        | p k0 off =>
          simp only [hx] at k ⊢
          cases hti : ti t with
          | none => simp only [hti] at k
          | mk agg sz zero fs el ik kk b8 =>
            simp only [hti] at k ⊢
            cases hy : evalO T y with
            | none => simp only [hy] at k
            | some u =>
              simp only [hy] at k ⊢
              cases hl : cellsSV u with
              | none => simp only [hl] at k
              | some l =>
                simp only [hl] at k ⊢
                cases h1 : Nat.beq (listLen l) sz with
                | false => simp only [h1] at k
                | true =>
                  simp only [h1] at k ⊢
                  cases h2 : lookB B k0 with
                  | none => simp only [h2] at k
                  | some bsz =>
                    simp only [h2] at k ⊢
                    cases h3 : Nat.ble (off + sz) bsz with
                    | false => simp only [h3] at k
                    | true =>
                      simp only [h3] at k ⊢
                      cases h4 : noKey Ms k0 off sz with
                      | false => simp only [h4] at k
                      | true =>
                        simp only [h4, storeK_eq] at k ⊢
                        exact hn _ _ _ _ _ _ _ _ h hp k
        | _ =>
          simp only [hx] at k ⊢
          exact opD_perm h hp k
  | buildSlice t len ps =>
    simp only [effD, bParts_cg h] at k ⊢
    cases hti : ti t with
    | none => simp only [hti] at k
    | mk agg size zero fs el ik kk b8 =>
      cases el with
      | none => simp only [hti] at k
      | some e =>
        simp only [hti] at k ⊢
        cases hte : ti e with
        | none => simp only [hte] at k
        | mk agg2 esz zero2 fs2 el2 ik2 kk2 b82 =>
          simp only [hte] at k ⊢
          cases hd : o.dst with
          | none => simp only [hd] at k
          | some d =>
            simp only [hd] at k ⊢
            cases h1 : Nat.blt d E.N with
            | false => simp only [h1] at k
            | true =>
              simp only [h1] at k ⊢
              cases h2 : Nat.beq (listLen ps.toList) len with
              | false => simp only [h2] at k
              | true =>
                simp only [h2] at k ⊢
                cases h3 : Nat.ble (len * esz + len) 16777216 with
                | false => simp only [h3] at k
                | true =>
                  simp only [h3] at k ⊢
                  cases h4 : bParts T esz 0 ps.toList with
                  | none => simp only [h4] at k
                  | some cs =>
                    simp only [h4] at k ⊢
                    exact ⟨fun y => hn _ _ _ _ _ _ _ _ (look_cons h _ _) (hp.cons _) (k.out y)⟩
  | _ => exact opD_perm h hp k

theorem allR_mono {p q : Nat → Prop} : ∀ {l : List Nat}, (∀ i, p i → q i) → allR l p → allR l q
  | [], _, _ => trivial
  | [i], h, k => h i k
  | i :: j :: r, h, k => ⟨h i k.l, allR_mono (l := j :: r) h k.r⟩

theorem vcD_perm {E : Env} {ti : Nat → TI} {ops : List Oper} {n0 : Nat} {B0 : List (Nat × TypeId × Nat)} {Ms : List ((Nat × Nat) × SV)} {Fs : List Fct} {K : St → Prop} (hK : PermOk K) : ∀ (f : Nat) (L : List Bool), PermOk (vcD E ti ops n0 B0 Ms Fs K f L)
  | 0, L => fun _ _ _ _ _ _ _ _ _ _ k => k
  | f + 1, L => by
    intro T T' n c B M Zs Zs' h hp k
    have ih := vcD_perm (E := E) (ti := ti) (ops := ops) (n0 := n0) (B0 := B0) (Ms := Ms) (Fs := Fs) hK f
    simp only [vcD, pickFrom_cg h] at k ⊢
    cases hpk : pickFrom ti ops T c Ms (readyB L 0 ops L) with
    | pure i d s =>
      simp only [hpk] at k ⊢
      cases d with
      | none => exact ih _ _ _ _ _ _ _ _ _ h hp k
      | some d =>
        simp only at k ⊢
        cases h1 : Nat.blt d E.N with
        | false => simp only [h1] at k
        | true =>
          simp only [h1] at k ⊢
          exact ih _ _ _ _ _ _ _ _ _ (look_cons h _ _) hp k
    | skip i d =>
      simp only [hpk] at k ⊢
      cases d with
      | none => exact ih _ _ _ _ _ _ _ _ _ h hp k
      | some d =>
        simp only at k ⊢
        cases h1 : Nat.blt d E.N with
        | false => simp only [h1] at k
        | true =>
          simp only [h1] at k ⊢
          exact ih _ _ _ _ _ _ _ _ _ (look_cons h _ _) hp k
    | split t b =>
      simp only [hpk] at k ⊢
      exact ⟨fun e => ih _ _ _ _ _ _ _ _ _ (look_cons h _ _) hp (k.t e), fun e => ih _ _ _ _ _ _ _ _ _ (look_cons h _ _) hp (k.f e)⟩
    | idx i o =>
      simp only [hpk] at k ⊢
      refine ⟨fun A => ?_⟩
      obtain ⟨s, h1, d, h2, h3⟩ := k.out A
      exact ⟨s, fun a w hW hT => h1 a w hW (TD.cg h hT), d, h2, ih _ _ _ _ _ _ _ _ _ (look_cons h _ _) hp h3⟩
    | none =>
      simp only [hpk] at k ⊢
      cases hr : readyB L 0 ops L with
      | nil =>
        simp only [hr] at k ⊢
        exact hK _ _ _ _ _ _ _ _ h hp k
      | cons i r =>
        simp only [hr] at k ⊢
        refine allR_mono (fun j kj => ?_) k
        cases ho : nth ops j with
        | none => simp only [ho] at kj
        | some o =>
          simp only [ho, guardSt_cg h] at kj ⊢
          cases hg : guardSt ops T o.guard with
          | go =>
            simp only [hg] at kj ⊢
            exact effD_perm (ih (setB L j)) h hp o.op kj
          | _ => simp only [hg] at kj

theorem weak_perm {E : Env} {α : Type} {tgt : α → St} : PermOk fun s => ∃ y, Weak E s (tgt y) := by
  rintro T T' n c B M Zs Zs' h hp ⟨y, k⟩
  exact ⟨y, fun a w ⟨A, hW, hT⟩ => k a w ⟨A, WD.perm hp hW, TD.cg h hT⟩⟩

end Go.Proofs.Ytjkkoonennpceaa
