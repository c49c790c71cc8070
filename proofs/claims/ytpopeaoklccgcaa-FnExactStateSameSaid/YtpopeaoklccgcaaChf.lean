/- Channels: comparing, copying. -/
import Derived.Test.YtpopeaoklccgcaaChe
import Derived.Laws.StructEq
namespace Go.Proofs.Ytpopeaoklccgcaa

open Go Go.Sx Go.RowKit

theorem list2 {α β : Type} {fs : List α} {h : α → β} {a b : β} (hF : fs.map h = [a, b]) : ∃ f g, fs = [f, g] ∧ h f = a ∧ h g = b := by
  cases fs with
  | nil => simp at hF
  | cons f r =>
    cases r with
    | nil => simp at hF
    | cons g r =>
      cases r with
      | nil => simp at hF; exact ⟨f, g, rfl, hF.1, hF.2⟩
      | cons _ _ => simp at hF

theorem part_one {P : Program} {t : TypeId} {d : TypeDesc} (hd : P.underlying t = some d) (ha : isAggD d = false) (cs : Array Value) (off : Nat) (v : Value) (h : cs[off]? = some v) (w : World) : (part t cs off).run P w = .ok v w := by
  unfold part
  rw [Sem.run_bind, run_isAgg hd, ha]
  simp [h]

theorem eqLet (x y : Letter) (w : World) : (binOp .neq 161 (.agg (cLet x).toArray) (.agg (cLet y).toArray)).run Try.prog w = .ok (.bool (decide (x ≠ y))) w := by
  have hS : Try.prog.underlying 161 = some (.struct (Try.prog.fieldsOf 161)) := by kernel_rfl
  have hI : Try.prog.underlying 3 = some (.int .i64) := by kernel_rfl
  have hF : (Try.prog.fieldsOf 161).toList.map (fun f => (f.name == "_", f.type, f.offset)) = [(false, 3, 0), (false, 3, 1)] := by kernel_rfl
  have hp : Try.prog.stoodInHeld 161 = false := by kernel_rfl
  obtain ⟨xt, xv⟩ := x
  obtain ⟨yt, yv⟩ := y
  rw [run_neq_struct, show (10000 : Nat) = 9999 + 1 from rfl, run_equalIn_agg w 9999 161 _ _ hS hp]
  obtain ⟨f, g, e, hf, hg⟩ := list2 hF
  simp only [Prod.mk.injEq] at hf hg
  obtain ⟨f1, f2, f3⟩ := hf
  obtain ⟨g1, g2, g3⟩ := hg
  have f1' : f.name ≠ "_" := by simpa using f1
  have g1' : g.name ≠ "_" := by simpa using g1
  have p1 := part_one hI rfl (cLet ⟨xt, xv⟩).toArray 0 (.int .i64 xt) rfl w
  have p2 := part_one hI rfl (cLet ⟨yt, yv⟩).toArray 0 (.int .i64 yt) rfl w
  have p3 := part_one hI rfl (cLet ⟨xt, xv⟩).toArray 1 (.int .i64 xv) rfl w
  have p4 := part_one hI rfl (cLet ⟨yt, yv⟩).toArray 1 (.int .i64 yv) rfl w
  have q1 : (Op.equalIn 9999 3 (.int .i64 xt) (.int .i64 yt)).run Try.prog w = .ok (xt == yt) w := run_equalIn_int w 9998 3 .i64 .i64 xt yt hI
  have q2 : (Op.equalIn 9999 3 (.int .i64 xv) (.int .i64 yv)).run Try.prog w = .ok (xv == yv) w := run_equalIn_int w 9998 3 .i64 .i64 xv yv hI
  simp only [e, Op.eqFields, f2, f3, g2, g3, f1', g1', ne_eq, not_false_eq_true, if_true, Sem.run_bind, p1, p2, Result.andThen_ok, q1]
  by_cases h1 : xt = yt
  · subst h1
    by_cases h2 : xv = yv
    · subst h2; simp [p3, q2]
    · simp [h2, p3, p4, q2]
  · simp [h1]

set_option maxRecDepth 100000 in
theorem eqLets_c (i j : Sl) (xs ys : List Letter) (w : World) (h : At w [slo i cLet 2 xs, slo j cLet 2 ys]) (hb : xs.length ≤ 4294967296) (hb2 : ys.length ≤ 4294967296) :
    Calls Try.prog 104 #[i.val xs.length, j.val ys.length] w (Ret w fun v L => v = .bool (decide (xs = ys)) ∧ L = []) := by
  refine calls2 Try.func104 rfl tabOk w _ rfl _ rfl _ h ⟨rfl, rfl, rfl, rfl, trivial⟩ _ _ (by decide) ?_
  refine CaseB.mk (fun h => ?_) (fun h => ?_)
  · have hne : xs ≠ ys := by rintro rfl; simp at h
    refine retw [] ⟨?_, rfl⟩ trivial rfl trivial (fun _ => rfl)
    simp [SV.den, hne]
  · have hl : xs.length = ys.length := by simp at h; omega
    refine LoopW.mk ⟨{ k : Nat // k ≤ xs.length ∧ xs.take k = ys.take k },
      fun p => .mk [(0, .v (i.val xs.length)), (1, .v (j.val ys.length)), (12, .v (.int .i64 xs.length)), (13, .v (.int .i64 p.1))] 0 0 [] [] [slo i cLet 2 xs, slo j cLet 2 ys],
      fun p => xs.length - p.1, ⟨0, Nat.zero_le _, rfl⟩, ?_, ?_⟩
    · refine weak_mk [0, 1] ?_ ?_ ?_ ?_ ?_ rfl rfl
      · repeat (first | exact trivial | refine ⟨⟨_, rfl, (by first | exact .of rfl | exact .lit rfl | exact .of (by first | (rfl)) | exact .lit (by first | (rfl))), (by first | exact trivial | exact Nat.le_of_ble_eq_true rfl)⟩, ?_⟩)
      · repeat (first | exact trivial | refine ⟨⟨(by first | exact .head _ | exact .tail _ (.head _) | exact .tail _ (.tail _ (.head _)) | exact .tail _ (.tail _ (.tail _ (.head _))) | exact .tail _ (.tail _ (.tail _ (.tail _ (.head _)))) | exact .tail _ (.tail _ (.tail _ (.tail _ (.tail _ (.head _))))) | exact .tail _ (.tail _ (.tail _ (.tail _ (.tail _ (.tail _ (.head _)))))) | exact .tail _ (.tail _ (.tail _ (.tail _ (.tail _ (.tail _ (.tail _ (.head _))))))) | exact .tail _ (.tail _ (.tail _ (.tail _ (.tail _ (.tail _ (.tail _ (.tail _ (.head _)))))))) | exact .tail _ (.tail _ (.tail _ (.tail _ (.tail _ (.tail _ (.tail _ (.tail _ (.tail _ (.head _)))))))))), Nat.le_of_ble_eq_true rfl⟩, ?_⟩)
      · repeat (first | exact trivial | refine ⟨⟨_, rfl, (by first | exact .of rfl | exact .lit rfl | exact .of (by first | (rfl)) | exact .lit (by first | (rfl))), (by first | exact trivial | exact Nat.le_of_ble_eq_true rfl)⟩, ?_⟩)
      · repeat (first | exact trivial | refine ⟨⟨_, rfl⟩, ?_⟩)
      · repeat (first | exact trivial | refine ⟨.inl ⟨_, rfl, (by first | rfl | (rfl))⟩, ?_⟩ | refine ⟨.inr ⟨Nat.le_of_ble_eq_true rfl, rfl, rfl, rfl, rfl⟩, ?_⟩)
    · rintro ⟨k, hk, he⟩
      refine CaseB.mk (fun h => ?_) (fun h => ?_)
      · have hlt : k < xs.length := by simpa using h
        have hlt2 : k < ys.length := by omega
        obtain ⟨q1, q2⟩ := take_eq_succ he hlt hlt2
        refine draw_start tabOk (by kernel_rfl) (by kernel_rfl) (by kernel_rfl) 200 [] [0, 1] [_, _] trivial trivial ⟨rfl, rfl, trivial⟩ rfl ?_
        refine d_idx (ti := tiOf tab) encLet tabOk rfl rfl rfl rfl rfl ⟨rfl, rfl⟩ (by first | exact rdAt 0 rfl | exact rdOwnAt 0 rfl | exact rdAt 1 rfl | exact rdOwnAt 1 rfl | exact rdAt 2 rfl | exact rdOwnAt 2 rfl | exact rdAt 3 rfl | exact rdOwnAt 3 rfl | exact rdAt 4 rfl | exact rdOwnAt 4 rfl | exact rdAt 5 rfl | exact rdOwnAt 5 rfl | exact rdAt 6 rfl | exact rdOwnAt 6 rfl | exact rdAt 7 rfl | exact rdOwnAt 7 rfl | exact rdAt 8 rfl | exact rdOwnAt 8 rfl | exact rdAt 9 rfl | exact rdOwnAt 9 rfl | exact rdAt 10 rfl | exact rdOwnAt 10 rfl | exact rdAt 11 rfl | exact rdOwnAt 11 rfl | exact rdAt 12 rfl | exact rdOwnAt 12 rfl | exact rdAt 13 rfl | exact rdOwnAt 13 rfl | exact rdAt 14 rfl | exact rdOwnAt 14 rfl | exact rdAt 15 rfl | exact rdOwnAt 15 rfl | exact rdAt 16 rfl | exact rdOwnAt 16 rfl | exact rdAt 17 rfl | exact rdOwnAt 17 rfl | exact rdAt 18 rfl | exact rdOwnAt 18 rfl | exact rdAt 19 rfl | exact rdOwnAt 19 rfl | exact rdAt 20 rfl | exact rdOwnAt 20 rfl | exact rdAt 21 rfl | exact rdOwnAt 21 rfl | exact rdAt 22 rfl | exact rdOwnAt 22 rfl | exact rdAt 23 rfl | exact rdOwnAt 23 rfl) k rfl (by first | omega | (simp; done) | (simp; omega) | (unfold maxLen; omega) | (unfold maxLen; simp; done) | (unfold maxLen; simp; omega)) (fun ad => ?_)
        refine d_idx (ti := tiOf tab) encLet tabOk rfl rfl rfl rfl rfl ⟨rfl, rfl⟩ (by first | exact rdAt 0 rfl | exact rdOwnAt 0 rfl | exact rdAt 1 rfl | exact rdOwnAt 1 rfl | exact rdAt 2 rfl | exact rdOwnAt 2 rfl | exact rdAt 3 rfl | exact rdOwnAt 3 rfl | exact rdAt 4 rfl | exact rdOwnAt 4 rfl | exact rdAt 5 rfl | exact rdOwnAt 5 rfl | exact rdAt 6 rfl | exact rdOwnAt 6 rfl | exact rdAt 7 rfl | exact rdOwnAt 7 rfl | exact rdAt 8 rfl | exact rdOwnAt 8 rfl | exact rdAt 9 rfl | exact rdOwnAt 9 rfl | exact rdAt 10 rfl | exact rdOwnAt 10 rfl | exact rdAt 11 rfl | exact rdOwnAt 11 rfl | exact rdAt 12 rfl | exact rdOwnAt 12 rfl | exact rdAt 13 rfl | exact rdOwnAt 13 rfl | exact rdAt 14 rfl | exact rdOwnAt 14 rfl | exact rdAt 15 rfl | exact rdOwnAt 15 rfl | exact rdAt 16 rfl | exact rdOwnAt 16 rfl | exact rdAt 17 rfl | exact rdOwnAt 17 rfl | exact rdAt 18 rfl | exact rdOwnAt 18 rfl | exact rdAt 19 rfl | exact rdOwnAt 19 rfl | exact rdAt 20 rfl | exact rdOwnAt 20 rfl | exact rdAt 21 rfl | exact rdOwnAt 21 rfl | exact rdAt 22 rfl | exact rdOwnAt 22 rfl | exact rdAt 23 rfl | exact rdOwnAt 23 rfl) k rfl (by first | omega | (simp; done) | (simp; omega) | (unfold maxLen; omega) | (unfold maxLen; simp; done) | (unfold maxLen; simp; omega)) (fun ad2 => ?_)
        refine d_bin rfl rfl rfl ⟨rfl, rfl⟩ (.bool (decide (xs[k] ≠ ys[k]))) (fun w => (run_eqGuard_agg w _ _ _ _ _ _ (by kernel_rfl))) (fun w => (eqLet _ _ w)) ?_
        refine CaseB.mk (fun h => ?_) (fun h => ?_)
        · have hne := q2 (by simpa using h)
          refine retw [] ⟨?_, rfl⟩ trivial rfl trivial (fun _ => rfl)
          simp [SV.den, hne]
        · have heq := q1 (by simpa using h)
          have hw := wrapN k _ hlt hb
          refine ⟨⟨k + 1, by omega, heq⟩, ?_, by simp; omega⟩
          refine weak_mk [0, 1] ?_ ?_ ?_ ?_ ?_ rfl rfl
          · repeat (first | exact trivial | refine ⟨⟨_, rfl, (by first | exact .of rfl | exact .lit rfl | exact .of (by first | ((exact congrArg (fun z => SV.v (Value.int .i64 z)) hw))) | exact .lit (by first | ((exact congrArg (fun z => SV.v (Value.int .i64 z)) hw)))), (by first | exact trivial | exact Nat.le_of_ble_eq_true rfl)⟩, ?_⟩)
          · repeat (first | exact trivial | refine ⟨⟨(by first | exact .head _ | exact .tail _ (.head _) | exact .tail _ (.tail _ (.head _)) | exact .tail _ (.tail _ (.tail _ (.head _))) | exact .tail _ (.tail _ (.tail _ (.tail _ (.head _)))) | exact .tail _ (.tail _ (.tail _ (.tail _ (.tail _ (.head _))))) | exact .tail _ (.tail _ (.tail _ (.tail _ (.tail _ (.tail _ (.head _)))))) | exact .tail _ (.tail _ (.tail _ (.tail _ (.tail _ (.tail _ (.tail _ (.head _))))))) | exact .tail _ (.tail _ (.tail _ (.tail _ (.tail _ (.tail _ (.tail _ (.tail _ (.head _)))))))) | exact .tail _ (.tail _ (.tail _ (.tail _ (.tail _ (.tail _ (.tail _ (.tail _ (.tail _ (.head _)))))))))), Nat.le_of_ble_eq_true rfl⟩, ?_⟩)
          · repeat (first | exact trivial | refine ⟨⟨_, rfl, (by first | exact .of rfl | exact .lit rfl | exact .of (by first | ((exact congrArg (fun z => SV.v (Value.int .i64 z)) hw))) | exact .lit (by first | ((exact congrArg (fun z => SV.v (Value.int .i64 z)) hw)))), (by first | exact trivial | exact Nat.le_of_ble_eq_true rfl)⟩, ?_⟩)
          · repeat (first | exact trivial | refine ⟨⟨_, rfl⟩, ?_⟩)
          · repeat (first | exact trivial | refine ⟨.inl ⟨_, rfl, (by first | rfl | ((exact congrArg (fun z => SV.v (Value.int .i64 z)) hw)))⟩, ?_⟩ | refine ⟨.inr ⟨Nat.le_of_ble_eq_true rfl, rfl, rfl, rfl, rfl⟩, ?_⟩)
      · have hge : xs.length ≤ k := by simpa using h
        have heq : xs = ys := by rw [List.take_of_length_le hge, List.take_of_length_le (by omega)] at he; exact he
        refine retw [] ⟨?_, rfl⟩ trivial rfl trivial (fun _ => rfl)
        simp [SV.den, heq]

theorem chan_eq (m k : Chan) : m = k ↔ m.room = k.room ∧ m.closed = k.closed ∧ m.items = k.items ∧ m.senders = k.senders ∧ m.getters = k.getters := by
  cases m; cases k; simp only [Chan.mk.injEq]; constructor
  · rintro ⟨h1, h2, h3, h4, h5⟩; exact ⟨h1, h5, h2, h3, h4⟩
  · rintro ⟨h1, h2, h3, h4, h5⟩; exact ⟨h1, h3, h4, h5, h2⟩

set_option maxRecDepth 100000 in
theorem same_c (m k : Chan) (i s g i2 s2 g2 : Sl) (w : World) (h : At w [slo i cInt 1 m.items, slo s cLet 2 m.senders, slo g cInt 1 m.getters, slo i2 cInt 1 k.items, slo s2 cLet 2 k.senders, slo g2 cInt 1 k.getters]) (hb : m.small) (hb2 : k.small) :
    Calls Try.prog 49 #[chanV m i s g, chanV k i2 s2 g2] w (Ret w fun v L => v = .bool (decide (m = k)) ∧ L = []) := by
  obtain ⟨b1, b2, b3⟩ := hb
  obtain ⟨c1, c2, c3⟩ := hb2
  refine calls2 Try.func49 rfl tabOk w _ rfl _ rfl _ h ⟨rfl, rfl, rfl, rfl, rfl, rfl, rfl, rfl, rfl, rfl, rfl, rfl, trivial⟩ _ _ (by decide) ?_
  refine CaseB.mk (fun h1 => ?_) (fun h1 => ?_)
  · refine CaseB.mk (fun h2 => ?_) (fun h2 => ?_)
    · refine stop_call _ cl40 rfl rfl rfl rfl ⟨rfl, rfl⟩ (fun A w hW => eqInts_c i i2 m.items k.items w ⟨(by first | exact hW.rd 0 rfl | exact hW.rdOwn 0 rfl | exact hW.rd 1 rfl | exact hW.rdOwn 1 rfl | exact hW.rd 2 rfl | exact hW.rdOwn 2 rfl | exact hW.rd 3 rfl | exact hW.rdOwn 3 rfl | exact hW.rd 4 rfl | exact hW.rdOwn 4 rfl | exact hW.rd 5 rfl | exact hW.rdOwn 5 rfl | exact hW.rd 6 rfl | exact hW.rdOwn 6 rfl | exact hW.rd 7 rfl | exact hW.rdOwn 7 rfl | exact hW.rd 8 rfl | exact hW.rdOwn 8 rfl | exact hW.rd 9 rfl | exact hW.rdOwn 9 rfl | exact hW.rd 10 rfl | exact hW.rdOwn 10 rfl | exact hW.rd 11 rfl | exact hW.rdOwn 11 rfl | exact hW.rd 12 rfl | exact hW.rdOwn 12 rfl | exact hW.rd 13 rfl | exact hW.rdOwn 13 rfl | exact hW.rd 14 rfl | exact hW.rdOwn 14 rfl | exact hW.rd 15 rfl | exact hW.rdOwn 15 rfl | exact hW.rd 16 rfl | exact hW.rdOwn 16 rfl | exact hW.rd 17 rfl | exact hW.rdOwn 17 rfl | exact hW.rd 18 rfl | exact hW.rdOwn 18 rfl | exact hW.rd 19 rfl | exact hW.rdOwn 19 rfl | exact hW.rd 20 rfl | exact hW.rdOwn 20 rfl | exact hW.rd 21 rfl | exact hW.rdOwn 21 rfl | exact hW.rd 22 rfl | exact hW.rdOwn 22 rfl | exact hW.rd 23 rfl | exact hW.rdOwn 23 rfl), (by first | exact hW.rd 0 rfl | exact hW.rdOwn 0 rfl | exact hW.rd 1 rfl | exact hW.rdOwn 1 rfl | exact hW.rd 2 rfl | exact hW.rdOwn 2 rfl | exact hW.rd 3 rfl | exact hW.rdOwn 3 rfl | exact hW.rd 4 rfl | exact hW.rdOwn 4 rfl | exact hW.rd 5 rfl | exact hW.rdOwn 5 rfl | exact hW.rd 6 rfl | exact hW.rdOwn 6 rfl | exact hW.rd 7 rfl | exact hW.rdOwn 7 rfl | exact hW.rd 8 rfl | exact hW.rdOwn 8 rfl | exact hW.rd 9 rfl | exact hW.rdOwn 9 rfl | exact hW.rd 10 rfl | exact hW.rdOwn 10 rfl | exact hW.rd 11 rfl | exact hW.rdOwn 11 rfl | exact hW.rd 12 rfl | exact hW.rdOwn 12 rfl | exact hW.rd 13 rfl | exact hW.rdOwn 13 rfl | exact hW.rd 14 rfl | exact hW.rdOwn 14 rfl | exact hW.rd 15 rfl | exact hW.rdOwn 15 rfl | exact hW.rd 16 rfl | exact hW.rdOwn 16 rfl | exact hW.rd 17 rfl | exact hW.rdOwn 17 rfl | exact hW.rd 18 rfl | exact hW.rdOwn 18 rfl | exact hW.rd 19 rfl | exact hW.rdOwn 19 rfl | exact hW.rd 20 rfl | exact hW.rdOwn 20 rfl | exact hW.rd 21 rfl | exact hW.rdOwn 21 rfl | exact hW.rd 22 rfl | exact hW.rdOwn 22 rfl | exact hW.rd 23 rfl | exact hW.rdOwn 23 rfl), trivial⟩ b1 c1) ?_
      rintro v L ⟨rfl, rfl⟩
      refine CaseB.mk (fun h3 => ?_) (fun h3 => ?_)
      · refine stop_call _ cl104 rfl rfl rfl rfl ⟨rfl, rfl⟩ (fun A w hW => eqLets_c s s2 m.senders k.senders w ⟨(by first | exact hW.rd 0 rfl | exact hW.rdOwn 0 rfl | exact hW.rd 1 rfl | exact hW.rdOwn 1 rfl | exact hW.rd 2 rfl | exact hW.rdOwn 2 rfl | exact hW.rd 3 rfl | exact hW.rdOwn 3 rfl | exact hW.rd 4 rfl | exact hW.rdOwn 4 rfl | exact hW.rd 5 rfl | exact hW.rdOwn 5 rfl | exact hW.rd 6 rfl | exact hW.rdOwn 6 rfl | exact hW.rd 7 rfl | exact hW.rdOwn 7 rfl | exact hW.rd 8 rfl | exact hW.rdOwn 8 rfl | exact hW.rd 9 rfl | exact hW.rdOwn 9 rfl | exact hW.rd 10 rfl | exact hW.rdOwn 10 rfl | exact hW.rd 11 rfl | exact hW.rdOwn 11 rfl | exact hW.rd 12 rfl | exact hW.rdOwn 12 rfl | exact hW.rd 13 rfl | exact hW.rdOwn 13 rfl | exact hW.rd 14 rfl | exact hW.rdOwn 14 rfl | exact hW.rd 15 rfl | exact hW.rdOwn 15 rfl | exact hW.rd 16 rfl | exact hW.rdOwn 16 rfl | exact hW.rd 17 rfl | exact hW.rdOwn 17 rfl | exact hW.rd 18 rfl | exact hW.rdOwn 18 rfl | exact hW.rd 19 rfl | exact hW.rdOwn 19 rfl | exact hW.rd 20 rfl | exact hW.rdOwn 20 rfl | exact hW.rd 21 rfl | exact hW.rdOwn 21 rfl | exact hW.rd 22 rfl | exact hW.rdOwn 22 rfl | exact hW.rd 23 rfl | exact hW.rdOwn 23 rfl), (by first | exact hW.rd 0 rfl | exact hW.rdOwn 0 rfl | exact hW.rd 1 rfl | exact hW.rdOwn 1 rfl | exact hW.rd 2 rfl | exact hW.rdOwn 2 rfl | exact hW.rd 3 rfl | exact hW.rdOwn 3 rfl | exact hW.rd 4 rfl | exact hW.rdOwn 4 rfl | exact hW.rd 5 rfl | exact hW.rdOwn 5 rfl | exact hW.rd 6 rfl | exact hW.rdOwn 6 rfl | exact hW.rd 7 rfl | exact hW.rdOwn 7 rfl | exact hW.rd 8 rfl | exact hW.rdOwn 8 rfl | exact hW.rd 9 rfl | exact hW.rdOwn 9 rfl | exact hW.rd 10 rfl | exact hW.rdOwn 10 rfl | exact hW.rd 11 rfl | exact hW.rdOwn 11 rfl | exact hW.rd 12 rfl | exact hW.rdOwn 12 rfl | exact hW.rd 13 rfl | exact hW.rdOwn 13 rfl | exact hW.rd 14 rfl | exact hW.rdOwn 14 rfl | exact hW.rd 15 rfl | exact hW.rdOwn 15 rfl | exact hW.rd 16 rfl | exact hW.rdOwn 16 rfl | exact hW.rd 17 rfl | exact hW.rdOwn 17 rfl | exact hW.rd 18 rfl | exact hW.rdOwn 18 rfl | exact hW.rd 19 rfl | exact hW.rdOwn 19 rfl | exact hW.rd 20 rfl | exact hW.rdOwn 20 rfl | exact hW.rd 21 rfl | exact hW.rdOwn 21 rfl | exact hW.rd 22 rfl | exact hW.rdOwn 22 rfl | exact hW.rd 23 rfl | exact hW.rdOwn 23 rfl), trivial⟩ b2 c2) ?_
        rintro v L ⟨rfl, rfl⟩
        refine CaseB.mk (fun h4 => ?_) (fun h4 => ?_)
        · refine stop_call _ cl40 rfl rfl rfl rfl ⟨rfl, rfl⟩ (fun A w hW => eqInts_c g g2 m.getters k.getters w ⟨(by first | exact hW.rd 0 rfl | exact hW.rdOwn 0 rfl | exact hW.rd 1 rfl | exact hW.rdOwn 1 rfl | exact hW.rd 2 rfl | exact hW.rdOwn 2 rfl | exact hW.rd 3 rfl | exact hW.rdOwn 3 rfl | exact hW.rd 4 rfl | exact hW.rdOwn 4 rfl | exact hW.rd 5 rfl | exact hW.rdOwn 5 rfl | exact hW.rd 6 rfl | exact hW.rdOwn 6 rfl | exact hW.rd 7 rfl | exact hW.rdOwn 7 rfl | exact hW.rd 8 rfl | exact hW.rdOwn 8 rfl | exact hW.rd 9 rfl | exact hW.rdOwn 9 rfl | exact hW.rd 10 rfl | exact hW.rdOwn 10 rfl | exact hW.rd 11 rfl | exact hW.rdOwn 11 rfl | exact hW.rd 12 rfl | exact hW.rdOwn 12 rfl | exact hW.rd 13 rfl | exact hW.rdOwn 13 rfl | exact hW.rd 14 rfl | exact hW.rdOwn 14 rfl | exact hW.rd 15 rfl | exact hW.rdOwn 15 rfl | exact hW.rd 16 rfl | exact hW.rdOwn 16 rfl | exact hW.rd 17 rfl | exact hW.rdOwn 17 rfl | exact hW.rd 18 rfl | exact hW.rdOwn 18 rfl | exact hW.rd 19 rfl | exact hW.rdOwn 19 rfl | exact hW.rd 20 rfl | exact hW.rdOwn 20 rfl | exact hW.rd 21 rfl | exact hW.rdOwn 21 rfl | exact hW.rd 22 rfl | exact hW.rdOwn 22 rfl | exact hW.rd 23 rfl | exact hW.rdOwn 23 rfl), (by first | exact hW.rd 0 rfl | exact hW.rdOwn 0 rfl | exact hW.rd 1 rfl | exact hW.rdOwn 1 rfl | exact hW.rd 2 rfl | exact hW.rdOwn 2 rfl | exact hW.rd 3 rfl | exact hW.rdOwn 3 rfl | exact hW.rd 4 rfl | exact hW.rdOwn 4 rfl | exact hW.rd 5 rfl | exact hW.rdOwn 5 rfl | exact hW.rd 6 rfl | exact hW.rdOwn 6 rfl | exact hW.rd 7 rfl | exact hW.rdOwn 7 rfl | exact hW.rd 8 rfl | exact hW.rdOwn 8 rfl | exact hW.rd 9 rfl | exact hW.rdOwn 9 rfl | exact hW.rd 10 rfl | exact hW.rdOwn 10 rfl | exact hW.rd 11 rfl | exact hW.rdOwn 11 rfl | exact hW.rd 12 rfl | exact hW.rdOwn 12 rfl | exact hW.rd 13 rfl | exact hW.rdOwn 13 rfl | exact hW.rd 14 rfl | exact hW.rdOwn 14 rfl | exact hW.rd 15 rfl | exact hW.rdOwn 15 rfl | exact hW.rd 16 rfl | exact hW.rdOwn 16 rfl | exact hW.rd 17 rfl | exact hW.rdOwn 17 rfl | exact hW.rd 18 rfl | exact hW.rdOwn 18 rfl | exact hW.rd 19 rfl | exact hW.rdOwn 19 rfl | exact hW.rd 20 rfl | exact hW.rdOwn 20 rfl | exact hW.rd 21 rfl | exact hW.rdOwn 21 rfl | exact hW.rd 22 rfl | exact hW.rdOwn 22 rfl | exact hW.rd 23 rfl | exact hW.rdOwn 23 rfl), trivial⟩ b3 c3) ?_
          rintro v L ⟨rfl, rfl⟩
          refine retw [] ⟨?_, rfl⟩ trivial rfl trivial (fun _ => rfl)
          simp at h1 h2 h3 h4
          simp [SV.den, chan_eq, h1, h2, h3, h4]
        · refine retw [] ⟨?_, rfl⟩ trivial rfl trivial (fun _ => rfl)
          simp at h4
          simp [SV.den, chan_eq, h4]
      · refine retw [] ⟨?_, rfl⟩ trivial rfl trivial (fun _ => rfl)
        simp at h3
        simp [SV.den, chan_eq, h3]
    · refine retw [] ⟨?_, rfl⟩ trivial rfl trivial (fun _ => rfl)
      simp at h2
      simp [SV.den, chan_eq, h2]
  · refine retw [] ⟨?_, rfl⟩ trivial rfl trivial (fun _ => rfl)
    simp at h1
    simp [SV.den, chan_eq, h1]

end Go.Proofs.Ytpopeaoklccgcaa
