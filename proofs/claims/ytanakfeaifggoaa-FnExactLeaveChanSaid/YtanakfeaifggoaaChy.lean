/- Channels: taking out of a list in place. -/
import Derived.Test.YtanakfeaifggoaaChq
import Derived.Test.YtanakfeaifggoaaSxq
namespace Go.Proofs.Ytanakfeaifggoaa
open Go Go.Sx Go.RowKit

def fnV (f : FuncId) (ga : Nat) : Value := .func (.func f) #[] #[.pointer (some ⟨ga, 0, none⟩)]
abbrev varI (ga : Nat) (t : Int) : Fct := fVar ga 3 [.int .i64 t]

set_option maxRecDepth 100000 in
theorem isT1_c (x : Letter) (t : Int) (ga : Nat) (w : World) (h : At w [varI ga t]) :
    Calls Try.prog 61 #[.agg (cLet x).toArray, .pointer (some ⟨ga, 0, none⟩)] w (Ret w fun v L => v = .bool (x.t == t) ∧ L = []) := by
  refine calls2 Try.func61 rfl tabOk w _ rfl _ rfl _ h ⟨rfl, rfl, trivial⟩ _ _ (by decide) ?_
  refine stop_loadV 0 tabOk rfl rfl rfl rfl rfl ⟨rfl, rfl⟩ ?_
  exact retw [] ⟨rfl, rfl⟩ trivial rfl trivial (fun _ => rfl)
set_option maxRecDepth 100000 in
theorem isT2_c (x t : Int) (ga : Nat) (w : World) (h : At w [varI ga t]) :
    Calls Try.prog 63 #[.int .i64 x, .pointer (some ⟨ga, 0, none⟩)] w (Ret w fun v L => v = .bool (x == t) ∧ L = []) := by
  refine calls2 Try.func63 rfl tabOk w _ rfl _ rfl _ h ⟨rfl, rfl, trivial⟩ _ _ (by decide) ?_
  refine stop_loadV 0 tabOk rfl rfl rfl rfl rfl ⟨rfl, rfl⟩ ?_
  exact retw [] ⟨rfl, rfl⟩ trivial rfl trivial (fun _ => rfl)

set_option maxRecDepth 100000 in
theorem indexL_c (i : Sl) (xs : List Letter) (t : Int) (ga : Nat) (w : World) (h : At w [slo i cLet 2 xs, varI ga t]) (hb : xs.length ≤ 4294967296) :
    Calls Try.prog 75 #[i.val xs.length, fnV 61 ga] w (Ret w fun v L => v = .int .i64 (atM (xs.map Letter.t) t) ∧ L = []) := by
  refine calls2 Try.func75 rfl tabOk w _ rfl _ rfl _ h ⟨rfl, rfl, rfl, rfl, trivial⟩ _ _ (by decide) ?_
  refine LoopW.mk ⟨{ k : Nat // k ≤ xs.length ∧ t ∉ (xs.map Letter.t).take k },
    fun p => .mk [(0, .v (i.val xs.length)), (1, .v (fnV 61 ga)), (7, .v (.int .i64 xs.length)), (8, .v (.int .i64 p.1))] 0 0 [] [] [slo i cLet 2 xs, varI ga t],
    fun p => xs.length - p.1, ⟨0, Nat.zero_le _, by simp⟩, ?_, ?_⟩
  · refine weak_mk [0, 1] ?_ ?_ ?_ ?_ ?_ rfl rfl
    · repeat (first | exact trivial | refine ⟨⟨_, rfl, (by first | exact .of rfl | exact .lit rfl | exact .of (by first | (rfl)) | exact .lit (by first | (rfl))), (by first | exact trivial | exact Nat.le_of_ble_eq_true rfl)⟩, ?_⟩)
    · repeat (first | exact trivial | refine ⟨⟨(by first | exact .head _ | exact .tail _ (.head _) | exact .tail _ (.tail _ (.head _)) | exact .tail _ (.tail _ (.tail _ (.head _))) | exact .tail _ (.tail _ (.tail _ (.tail _ (.head _)))) | exact .tail _ (.tail _ (.tail _ (.tail _ (.tail _ (.head _))))) | exact .tail _ (.tail _ (.tail _ (.tail _ (.tail _ (.tail _ (.head _)))))) | exact .tail _ (.tail _ (.tail _ (.tail _ (.tail _ (.tail _ (.tail _ (.head _))))))) | exact .tail _ (.tail _ (.tail _ (.tail _ (.tail _ (.tail _ (.tail _ (.tail _ (.head _)))))))) | exact .tail _ (.tail _ (.tail _ (.tail _ (.tail _ (.tail _ (.tail _ (.tail _ (.tail _ (.head _)))))))))), Nat.le_of_ble_eq_true rfl⟩, ?_⟩)
    · repeat (first | exact trivial | refine ⟨⟨_, rfl, (by first | exact .of rfl | exact .lit rfl | exact .of (by first | (rfl)) | exact .lit (by first | (rfl))), (by first | exact trivial | exact Nat.le_of_ble_eq_true rfl)⟩, ?_⟩)
    · repeat (first | exact trivial | refine ⟨⟨_, rfl⟩, ?_⟩)
    · repeat (first | exact trivial | refine ⟨.inl ⟨_, rfl, (by first | rfl | (rfl))⟩, ?_⟩ | refine ⟨.inr ⟨Nat.le_of_ble_eq_true rfl, rfl, rfl, rfl, rfl⟩, ?_⟩)
  · rintro ⟨k, hk, he⟩
    refine CaseB.mk (fun h => ?_) (fun h => ?_)
    · have hlt : k < xs.length := by simpa using h
      have hlt2 : k < (xs.map Letter.t).length := by simpa using hlt
      refine stop_idx encLet tabOk rfl rfl rfl rfl rfl ⟨rfl, rfl⟩ (by first | exact rdAt 0 rfl | exact rdOwnAt 0 rfl | exact rdAt 1 rfl | exact rdOwnAt 1 rfl | exact rdAt 2 rfl | exact rdOwnAt 2 rfl | exact rdAt 3 rfl | exact rdOwnAt 3 rfl | exact rdAt 4 rfl | exact rdOwnAt 4 rfl | exact rdAt 5 rfl | exact rdOwnAt 5 rfl | exact rdAt 6 rfl | exact rdOwnAt 6 rfl | exact rdAt 7 rfl | exact rdOwnAt 7 rfl | exact rdAt 8 rfl | exact rdOwnAt 8 rfl | exact rdAt 9 rfl | exact rdOwnAt 9 rfl | exact rdAt 10 rfl | exact rdOwnAt 10 rfl | exact rdAt 11 rfl | exact rdOwnAt 11 rfl | exact rdAt 12 rfl | exact rdOwnAt 12 rfl | exact rdAt 13 rfl | exact rdOwnAt 13 rfl | exact rdAt 14 rfl | exact rdOwnAt 14 rfl | exact rdAt 15 rfl | exact rdOwnAt 15 rfl | exact rdAt 16 rfl | exact rdOwnAt 16 rfl | exact rdAt 17 rfl | exact rdOwnAt 17 rfl | exact rdAt 18 rfl | exact rdOwnAt 18 rfl | exact rdAt 19 rfl | exact rdOwnAt 19 rfl | exact rdAt 20 rfl | exact rdOwnAt 20 rfl | exact rdAt 21 rfl | exact rdOwnAt 21 rfl | exact rdAt 22 rfl | exact rdOwnAt 22 rfl | exact rdAt 23 rfl | exact rdOwnAt 23 rfl) k rfl (by first | omega | (simp; done) | (simp; omega) | (unfold maxLen; omega) | (unfold maxLen; simp; done) | (unfold maxLen; simp; omega)) (fun ad => ?_)
      refine stop_callV _ cl61 rfl rfl rfl rfl ⟨rfl, rfl⟩ (fun A w hW => (isT1_c _ t ga w ⟨hW.varAt 1 rfl, trivial⟩)) ?_
      rintro v L ⟨rfl, rfl⟩
      refine CaseB.mk (fun h => ?_) (fun h => ?_)
      · have heq : (xs.map Letter.t)[k] = t := by simpa using h
        exact retw [] ⟨congrArg (Value.int .i64) (atM_at hlt2 he heq).symm, rfl⟩ trivial rfl trivial (fun _ => rfl)
      · have hne : (xs.map Letter.t)[k] ≠ t := by simpa using h
        have hw := wrapN k _ hlt hb
        refine ⟨⟨k + 1, by omega, not_mem_take_succ hlt2 he hne⟩, ?_, by simp; omega⟩
        refine weak_mk [0, 1] ?_ ?_ ?_ ?_ ?_ rfl rfl
        · repeat (first | exact trivial | refine ⟨⟨_, rfl, (by first | exact .of rfl | exact .lit rfl | exact .of (by first | ((exact congrArg (fun z => SV.v (Value.int .i64 z)) hw))) | exact .lit (by first | ((exact congrArg (fun z => SV.v (Value.int .i64 z)) hw)))), (by first | exact trivial | exact Nat.le_of_ble_eq_true rfl)⟩, ?_⟩)
        · repeat (first | exact trivial | refine ⟨⟨(by first | exact .head _ | exact .tail _ (.head _) | exact .tail _ (.tail _ (.head _)) | exact .tail _ (.tail _ (.tail _ (.head _))) | exact .tail _ (.tail _ (.tail _ (.tail _ (.head _)))) | exact .tail _ (.tail _ (.tail _ (.tail _ (.tail _ (.head _))))) | exact .tail _ (.tail _ (.tail _ (.tail _ (.tail _ (.tail _ (.head _)))))) | exact .tail _ (.tail _ (.tail _ (.tail _ (.tail _ (.tail _ (.tail _ (.head _))))))) | exact .tail _ (.tail _ (.tail _ (.tail _ (.tail _ (.tail _ (.tail _ (.tail _ (.head _)))))))) | exact .tail _ (.tail _ (.tail _ (.tail _ (.tail _ (.tail _ (.tail _ (.tail _ (.tail _ (.head _)))))))))), Nat.le_of_ble_eq_true rfl⟩, ?_⟩)
        · repeat (first | exact trivial | refine ⟨⟨_, rfl, (by first | exact .of rfl | exact .lit rfl | exact .of (by first | ((exact congrArg (fun z => SV.v (Value.int .i64 z)) hw))) | exact .lit (by first | ((exact congrArg (fun z => SV.v (Value.int .i64 z)) hw)))), (by first | exact trivial | exact Nat.le_of_ble_eq_true rfl)⟩, ?_⟩)
        · repeat (first | exact trivial | refine ⟨⟨_, rfl⟩, ?_⟩)
        · repeat (first | exact trivial | refine ⟨.inl ⟨_, rfl, (by first | rfl | ((exact congrArg (fun z => SV.v (Value.int .i64 z)) hw)))⟩, ?_⟩ | refine ⟨.inr ⟨Nat.le_of_ble_eq_true rfl, rfl, rfl, rfl, rfl⟩, ?_⟩)
    · have hge : xs.length ≤ k := by simpa using h
      rw [List.take_of_length_le (by simpa using hge)] at he
      exact retw [] ⟨congrArg (Value.int .i64) (atM_none he).symm, rfl⟩ trivial rfl trivial (fun _ => rfl)
set_option maxRecDepth 100000 in
theorem indexI_c (i : Sl) (xs : List Int) (t : Int) (ga : Nat) (w : World) (h : At w [slo i cInt 1 xs, varI ga t]) (hb : xs.length ≤ 4294967296) :
    Calls Try.prog 76 #[i.val xs.length, fnV 63 ga] w (Ret w fun v L => v = .int .i64 (atM xs t) ∧ L = []) := by
  refine calls2 Try.func76 rfl tabOk w _ rfl _ rfl _ h ⟨rfl, rfl, rfl, rfl, trivial⟩ _ _ (by decide) ?_
  refine LoopW.mk ⟨{ k : Nat // k ≤ xs.length ∧ t ∉ xs.take k },
    fun p => .mk [(0, .v (i.val xs.length)), (1, .v (fnV 63 ga)), (7, .v (.int .i64 xs.length)), (8, .v (.int .i64 p.1))] 0 0 [] [] [slo i cInt 1 xs, varI ga t],
    fun p => xs.length - p.1, ⟨0, Nat.zero_le _, by simp⟩, ?_, ?_⟩
  · refine weak_mk [0, 1] ?_ ?_ ?_ ?_ ?_ rfl rfl
    · repeat (first | exact trivial | refine ⟨⟨_, rfl, (by first | exact .of rfl | exact .lit rfl | exact .of (by first | (rfl)) | exact .lit (by first | (rfl))), (by first | exact trivial | exact Nat.le_of_ble_eq_true rfl)⟩, ?_⟩)
    · repeat (first | exact trivial | refine ⟨⟨(by first | exact .head _ | exact .tail _ (.head _) | exact .tail _ (.tail _ (.head _)) | exact .tail _ (.tail _ (.tail _ (.head _))) | exact .tail _ (.tail _ (.tail _ (.tail _ (.head _)))) | exact .tail _ (.tail _ (.tail _ (.tail _ (.tail _ (.head _))))) | exact .tail _ (.tail _ (.tail _ (.tail _ (.tail _ (.tail _ (.head _)))))) | exact .tail _ (.tail _ (.tail _ (.tail _ (.tail _ (.tail _ (.tail _ (.head _))))))) | exact .tail _ (.tail _ (.tail _ (.tail _ (.tail _ (.tail _ (.tail _ (.tail _ (.head _)))))))) | exact .tail _ (.tail _ (.tail _ (.tail _ (.tail _ (.tail _ (.tail _ (.tail _ (.tail _ (.head _)))))))))), Nat.le_of_ble_eq_true rfl⟩, ?_⟩)
    · repeat (first | exact trivial | refine ⟨⟨_, rfl, (by first | exact .of rfl | exact .lit rfl | exact .of (by first | (rfl)) | exact .lit (by first | (rfl))), (by first | exact trivial | exact Nat.le_of_ble_eq_true rfl)⟩, ?_⟩)
    · repeat (first | exact trivial | refine ⟨⟨_, rfl⟩, ?_⟩)
    · repeat (first | exact trivial | refine ⟨.inl ⟨_, rfl, (by first | rfl | (rfl))⟩, ?_⟩ | refine ⟨.inr ⟨Nat.le_of_ble_eq_true rfl, rfl, rfl, rfl, rfl⟩, ?_⟩)
  · rintro ⟨k, hk, he⟩
    refine CaseB.mk (fun h => ?_) (fun h => ?_)
    · have hlt : k < xs.length := by simpa using h
      refine stop_idx encInt tabOk rfl rfl rfl rfl rfl ⟨rfl, rfl⟩ (by first | exact rdAt 0 rfl | exact rdOwnAt 0 rfl | exact rdAt 1 rfl | exact rdOwnAt 1 rfl | exact rdAt 2 rfl | exact rdOwnAt 2 rfl | exact rdAt 3 rfl | exact rdOwnAt 3 rfl | exact rdAt 4 rfl | exact rdOwnAt 4 rfl | exact rdAt 5 rfl | exact rdOwnAt 5 rfl | exact rdAt 6 rfl | exact rdOwnAt 6 rfl | exact rdAt 7 rfl | exact rdOwnAt 7 rfl | exact rdAt 8 rfl | exact rdOwnAt 8 rfl | exact rdAt 9 rfl | exact rdOwnAt 9 rfl | exact rdAt 10 rfl | exact rdOwnAt 10 rfl | exact rdAt 11 rfl | exact rdOwnAt 11 rfl | exact rdAt 12 rfl | exact rdOwnAt 12 rfl | exact rdAt 13 rfl | exact rdOwnAt 13 rfl | exact rdAt 14 rfl | exact rdOwnAt 14 rfl | exact rdAt 15 rfl | exact rdOwnAt 15 rfl | exact rdAt 16 rfl | exact rdOwnAt 16 rfl | exact rdAt 17 rfl | exact rdOwnAt 17 rfl | exact rdAt 18 rfl | exact rdOwnAt 18 rfl | exact rdAt 19 rfl | exact rdOwnAt 19 rfl | exact rdAt 20 rfl | exact rdOwnAt 20 rfl | exact rdAt 21 rfl | exact rdOwnAt 21 rfl | exact rdAt 22 rfl | exact rdOwnAt 22 rfl | exact rdAt 23 rfl | exact rdOwnAt 23 rfl) k rfl (by first | omega | (simp; done) | (simp; omega) | (unfold maxLen; omega) | (unfold maxLen; simp; done) | (unfold maxLen; simp; omega)) (fun ad => ?_)
      refine stop_callV _ cl63 rfl rfl rfl rfl ⟨rfl, rfl⟩ (fun A w hW => (isT2_c _ t ga w ⟨hW.varAt 1 rfl, trivial⟩)) ?_
      rintro v L ⟨rfl, rfl⟩
      refine CaseB.mk (fun h => ?_) (fun h => ?_)
      · have heq : xs[k] = t := by simpa using h
        exact retw [] ⟨congrArg (Value.int .i64) (atM_at hlt he heq).symm, rfl⟩ trivial rfl trivial (fun _ => rfl)
      · have hne : xs[k] ≠ t := by simpa using h
        have hw := wrapN k _ hlt hb
        refine ⟨⟨k + 1, by omega, not_mem_take_succ hlt he hne⟩, ?_, by simp; omega⟩
        refine weak_mk [0, 1] ?_ ?_ ?_ ?_ ?_ rfl rfl
        · repeat (first | exact trivial | refine ⟨⟨_, rfl, (by first | exact .of rfl | exact .lit rfl | exact .of (by first | ((exact congrArg (fun z => SV.v (Value.int .i64 z)) hw))) | exact .lit (by first | ((exact congrArg (fun z => SV.v (Value.int .i64 z)) hw)))), (by first | exact trivial | exact Nat.le_of_ble_eq_true rfl)⟩, ?_⟩)
        · repeat (first | exact trivial | refine ⟨⟨(by first | exact .head _ | exact .tail _ (.head _) | exact .tail _ (.tail _ (.head _)) | exact .tail _ (.tail _ (.tail _ (.head _))) | exact .tail _ (.tail _ (.tail _ (.tail _ (.head _)))) | exact .tail _ (.tail _ (.tail _ (.tail _ (.tail _ (.head _))))) | exact .tail _ (.tail _ (.tail _ (.tail _ (.tail _ (.tail _ (.head _)))))) | exact .tail _ (.tail _ (.tail _ (.tail _ (.tail _ (.tail _ (.tail _ (.head _))))))) | exact .tail _ (.tail _ (.tail _ (.tail _ (.tail _ (.tail _ (.tail _ (.tail _ (.head _)))))))) | exact .tail _ (.tail _ (.tail _ (.tail _ (.tail _ (.tail _ (.tail _ (.tail _ (.tail _ (.head _)))))))))), Nat.le_of_ble_eq_true rfl⟩, ?_⟩)
        · repeat (first | exact trivial | refine ⟨⟨_, rfl, (by first | exact .of rfl | exact .lit rfl | exact .of (by first | ((exact congrArg (fun z => SV.v (Value.int .i64 z)) hw))) | exact .lit (by first | ((exact congrArg (fun z => SV.v (Value.int .i64 z)) hw)))), (by first | exact trivial | exact Nat.le_of_ble_eq_true rfl)⟩, ?_⟩)
        · repeat (first | exact trivial | refine ⟨⟨_, rfl⟩, ?_⟩)
        · repeat (first | exact trivial | refine ⟨.inl ⟨_, rfl, (by first | rfl | ((exact congrArg (fun z => SV.v (Value.int .i64 z)) hw)))⟩, ?_⟩ | refine ⟨.inr ⟨Nat.le_of_ble_eq_true rfl, rfl, rfl, rfl, rfl⟩, ?_⟩)
    · have hge : xs.length ≤ k := by simpa using h
      rw [List.take_of_length_le hge] at he
      exact retw [] ⟨congrArg (Value.int .i64) (atM_none he).symm, rfl⟩ trivial rfl trivial (fun _ => rfl)

/-- The rows while they are thinned out: the first a of Q are what was kept of the first j; behind place j nothing has turned. -/
structure Thin {α : Type} (xs : List α) (p : α → Bool) where
  j : Nat
  Q : List α
  hj : j ≤ xs.length
  len : Q.length = xs.length
  kept : Q.take ((xs.take j).filter p).length = (xs.take j).filter p
  rest : Q.drop j = xs.drop j
theorem filter_le {α : Type} (xs : List α) (p : α → Bool) (j : Nat) : ((xs.take j).filter p).length ≤ j :=
  Nat.le_trans (List.length_filter_le _ _) (by simp; omega)
theorem filter_succ {α : Type} {xs : List α} {p : α → Bool} {j : Nat} (hj : j < xs.length) : (xs.take (j + 1)).filter p = (xs.take j).filter p ++ (if p xs[j] = true then [xs[j]] else []) := by
  rw [List.take_succ_eq_append_getElem hj, List.filter_append, List.filter_cons]
  rfl
theorem thin_get {α : Type} {xs : List α} {p : α → Bool} (y : Thin xs p) (h : y.j < xs.length) : y.Q[y.j]'(by rw [y.len]; exact h) = xs[y.j] := by
  have := congrArg (fun l => l[0]?) y.rest
  simp only [List.getElem?_drop, Nat.add_zero] at this
  rw [List.getElem?_eq_getElem (by rw [y.len]; exact h), List.getElem?_eq_getElem h] at this
  injection this
theorem thin_skip {α : Type} {xs : List α} {p : α → Bool} {j : Nat} {Q : List α} (hj : j < xs.length) (hp : p xs[j] = false) (kept : Q.take ((xs.take j).filter p).length = (xs.take j).filter p) (rest : Q.drop j = xs.drop j) :
    Q.take ((xs.take (j + 1)).filter p).length = (xs.take (j + 1)).filter p ∧ Q.drop (j + 1) = xs.drop (j + 1) := by
  refine ⟨by rw [filter_succ hj, hp]; simpa using kept, ?_⟩
  have := congrArg (fun l => l.drop 1) rest
  simpa [List.drop_drop] using this
theorem thin_keep {α : Type} {xs : List α} {p : α → Bool} {j : Nat} {Q : List α} (hj : j < xs.length) (hl : Q.length = xs.length) (hp : p xs[j] = true) (kept : Q.take ((xs.take j).filter p).length = (xs.take j).filter p) (rest : Q.drop j = xs.drop j) :
    (Q.set ((xs.take j).filter p).length xs[j]).take ((xs.take (j + 1)).filter p).length = (xs.take (j + 1)).filter p ∧ (Q.set ((xs.take j).filter p).length xs[j]).drop (j + 1) = xs.drop (j + 1) := by
  have ha := filter_le xs p j
  refine ⟨?_, ?_⟩
  · rw [filter_succ hj, if_pos hp, List.length_append, List.length_singleton, List.take_succ_eq_append_getElem (by simp; omega), List.take_set_of_le (Nat.le_refl _), kept]
    simp
  · rw [List.drop_set_of_lt (by omega)]
    have := congrArg (fun l => l.drop 1) rest
    simpa [List.drop_drop] using this

theorem atM_of_ge {xs : List Int} {t : Int} (h : 0 ≤ atM xs t) : ∃ k : Nat, ∃ hk : k < xs.length, atM xs t = (k : Int) ∧ xs[k] = t ∧ t ∉ xs.take k := by
  induction xs with
  | nil => simp [atM] at h
  | cons x r ih =>
    simp only [atM] at h ⊢
    split
    · rename_i hx
      exact ⟨0, by simp, rfl, hx, by simp⟩
    · rename_i hx
      rw [if_neg hx] at h
      split at h
      · omega
      · rename_i h2
        obtain ⟨k, hk, h3, h4, h5⟩ := ih (by omega)
        refine ⟨k + 1, by simpa using hk, by rw [if_neg h2, h3]; omega, by simpa using h4, ?_⟩
        simp only [List.take_succ_cons, List.mem_cons, not_or]
        exact ⟨fun e => hx e.symm, h5⟩
theorem not_mem_filter {xs : List Int} {t : Int} (h : t ∉ xs) : xs.filter (fun x => !(x == t)) = xs := by
  rw [List.filter_eq_self]
  intro x hx
  simp
  rintro rfl; exact h hx

set_option maxHeartbeats 4000000 in
set_option maxRecDepth 100000 in
theorem deleteI_c (i : Sl) (xs : List Int) (t : Int) (ga : Nat) (w : World) (h : AtG w [own i 3 cInt 1 xs] [varI ga t]) (hb : xs.length ≤ 4294967296) :
    Calls Try.prog 62 #[i.val xs.length, fnV 63 ga] w (RetG w [own i 3 cInt 1 xs] fun v L => v = i.val (xs.filter fun x => !(x == t)).length ∧ L = [own i 3 cInt 1 (xs.filter fun x => !(x == t))]) := by
  refine callsG_fn Try.func62 rfl tabOk w _ rfl _ rfl _ _ h ⟨rfl, rfl, trivial⟩ _ _ rfl rfl ?_
  refine stop_call _ cl76 rfl rfl rfl rfl ⟨rfl, rfl⟩ (fun A w hW => (indexI_c i xs t ga w ⟨hW.rdOwn 0 rfl, hW.varAt 1 rfl, trivial⟩ hb)) ?_
  rintro v L ⟨rfl, rfl⟩
  refine CaseB.mk (fun h1 => ?_) (fun h1 => ?_)
  · have hn : t ∉ xs := fun hm => by have := (atM_mem xs t).2 hm; simp at h1; omega
    have hf := not_mem_filter hn
    exact retG [0] ⟨rfl, rfl⟩ ⟨.inl ⟨_, rfl, (by first | rfl | ((simp only [hf, resV, SV.den])))⟩, trivial⟩ rfl ⟨rfl, trivial⟩ (fun _ => (by first | rfl | ((simp only [hf, resV, SV.den]))))
  · have h0 : 0 ≤ atM xs t := by
      rcases Classical.em (t ∈ xs) with hm | hm
      · exact (atM_mem xs t).2 hm
      · rw [atM_none hm] at h1; simp at h1
    obtain ⟨k0, hk0, e0, e1, e2⟩ := atM_of_ge h0
    have hw0 := wrapN k0 _ hk0 hb
    have hf0 : (xs.take (k0 + 1)).filter (fun x => !(x == t)) = xs.take k0 := by rw [filter_succ hk0, not_mem_filter e2, e1]; (first | done | simp)
    refine LoopW.mk ⟨Thin xs (fun x => !(x == t)),
      fun y => .mk [(0, .v (i.val y.Q.length)), (1, .v (fnV 63 ga)), (5, .v (.int .i64 (((xs.take y.j).filter fun x => !(x == t)).length : Int))), (6, .v (.int .i64 (y.j : Int)))] 0 0 [] [] [own i 3 cInt 1 y.Q, varI ga t],
      fun y => xs.length - y.j, ⟨k0 + 1, xs, by omega, rfl, by rw [hf0]; simp, rfl⟩, ?_, ?_⟩
    · refine weak_mk [0, 1] ?_ ?_ ?_ ?_ ?_ rfl rfl
      · repeat (first | exact trivial | refine ⟨⟨_, rfl, (by first | exact .of rfl | exact .lit rfl | exact .of (by first | ((first | (simp only [hf0, List.length_take, Nat.min_eq_left (Nat.le_of_lt hk0), e0]; done) | (rw [e0]; exact congrArg (fun z => SV.v (Value.int .i64 z)) hw0)))) | exact .lit (by first | ((first | (simp only [hf0, List.length_take, Nat.min_eq_left (Nat.le_of_lt hk0), e0]; done) | (rw [e0]; exact congrArg (fun z => SV.v (Value.int .i64 z)) hw0))))), (by first | exact trivial | exact Nat.le_of_ble_eq_true rfl)⟩, ?_⟩)
      · repeat (first | exact trivial | refine ⟨⟨(by first | exact .head _ | exact .tail _ (.head _) | exact .tail _ (.tail _ (.head _)) | exact .tail _ (.tail _ (.tail _ (.head _))) | exact .tail _ (.tail _ (.tail _ (.tail _ (.head _)))) | exact .tail _ (.tail _ (.tail _ (.tail _ (.tail _ (.head _))))) | exact .tail _ (.tail _ (.tail _ (.tail _ (.tail _ (.tail _ (.head _)))))) | exact .tail _ (.tail _ (.tail _ (.tail _ (.tail _ (.tail _ (.tail _ (.head _))))))) | exact .tail _ (.tail _ (.tail _ (.tail _ (.tail _ (.tail _ (.tail _ (.tail _ (.head _)))))))) | exact .tail _ (.tail _ (.tail _ (.tail _ (.tail _ (.tail _ (.tail _ (.tail _ (.tail _ (.head _)))))))))), Nat.le_of_ble_eq_true rfl⟩, ?_⟩)
      · repeat (first | exact trivial | refine ⟨⟨_, rfl, (by first | exact .of rfl | exact .lit rfl | exact .of (by first | ((first | (simp only [hf0, List.length_take, Nat.min_eq_left (Nat.le_of_lt hk0), e0]; done) | (rw [e0]; exact congrArg (fun z => SV.v (Value.int .i64 z)) hw0)))) | exact .lit (by first | ((first | (simp only [hf0, List.length_take, Nat.min_eq_left (Nat.le_of_lt hk0), e0]; done) | (rw [e0]; exact congrArg (fun z => SV.v (Value.int .i64 z)) hw0))))), (by first | exact trivial | exact Nat.le_of_ble_eq_true rfl)⟩, ?_⟩)
      · repeat (first | exact trivial | refine ⟨⟨_, rfl⟩, ?_⟩)
      · repeat (first | exact trivial | refine ⟨.inl ⟨_, rfl, (by first | rfl | ((first | (simp only [hf0, List.length_take, Nat.min_eq_left (Nat.le_of_lt hk0), e0]; done) | (rw [e0]; exact congrArg (fun z => SV.v (Value.int .i64 z)) hw0))))⟩, ?_⟩ | refine ⟨.inr ⟨Nat.le_of_ble_eq_true rfl, rfl, rfl, rfl, rfl⟩, ?_⟩)
    · rintro ⟨j, Q, hj, hl, hk, hr⟩
      have ha := filter_le xs (fun x => !(x == t)) j
      refine CaseB.mk (fun h => ?_) (fun h => ?_)
      · have hlt : j < xs.length := by simp only [hl] at h; simpa using h
        have hlQ : j < Q.length := by omega
        have hq : Q[j] = xs[j] := thin_get ⟨j, Q, hj, hl, hk, hr⟩ hlt
        have hw := wrapN j _ hlt hb
        refine stop_idx encInt tabOk rfl rfl rfl rfl rfl ⟨rfl, rfl⟩ (by first | exact rdAt 0 rfl | exact rdOwnAt 0 rfl | exact rdAt 1 rfl | exact rdOwnAt 1 rfl | exact rdAt 2 rfl | exact rdOwnAt 2 rfl | exact rdAt 3 rfl | exact rdOwnAt 3 rfl | exact rdAt 4 rfl | exact rdOwnAt 4 rfl | exact rdAt 5 rfl | exact rdOwnAt 5 rfl | exact rdAt 6 rfl | exact rdOwnAt 6 rfl | exact rdAt 7 rfl | exact rdOwnAt 7 rfl | exact rdAt 8 rfl | exact rdOwnAt 8 rfl | exact rdAt 9 rfl | exact rdOwnAt 9 rfl | exact rdAt 10 rfl | exact rdOwnAt 10 rfl | exact rdAt 11 rfl | exact rdOwnAt 11 rfl | exact rdAt 12 rfl | exact rdOwnAt 12 rfl | exact rdAt 13 rfl | exact rdOwnAt 13 rfl | exact rdAt 14 rfl | exact rdOwnAt 14 rfl | exact rdAt 15 rfl | exact rdOwnAt 15 rfl | exact rdAt 16 rfl | exact rdOwnAt 16 rfl | exact rdAt 17 rfl | exact rdOwnAt 17 rfl | exact rdAt 18 rfl | exact rdOwnAt 18 rfl | exact rdAt 19 rfl | exact rdOwnAt 19 rfl | exact rdAt 20 rfl | exact rdOwnAt 20 rfl | exact rdAt 21 rfl | exact rdOwnAt 21 rfl | exact rdAt 22 rfl | exact rdOwnAt 22 rfl | exact rdAt 23 rfl | exact rdOwnAt 23 rfl) j rfl hlQ (fun ad => ?_)
        refine stop_callV _ cl63 rfl rfl rfl rfl ⟨rfl, rfl⟩ (fun A w hW => (isT2_c _ t ga w ⟨hW.varAt 1 rfl, trivial⟩)) ?_
        rintro v L ⟨rfl, rfl⟩
        rw [hq]
        refine CaseB.mk (fun h => ?_) (fun h => ?_)
        · have hp : (!(xs[j] == t)) = true := h
          obtain ⟨g1, g2⟩ := thin_keep (p := fun x => !(x == t)) hlt hl hp hk hr
          have hfs : (((xs.take (j + 1)).filter fun x => !(x == t)).length : Int) = (((xs.take j).filter fun x => !(x == t)).length + 1 : Nat) := by rw [filter_succ hlt, if_pos hp]; simp
          have hw2 : IntKind.i64.wrap ((((xs.take j).filter fun x => !(x == t)).length : Int) + 1) = (((xs.take (j + 1)).filter fun x => !(x == t)).length : Int) := by rw [hfs]; exact wrapN _ xs.length (by omega) hb
          refine stop_idxW encInt 0 tabOk rfl rfl rfl rfl rfl ⟨rfl, rfl⟩ rfl (by first | rfl | (simp; done)) (((xs.take j).filter fun x => !(x == t)).length) rfl (by first | omega | (simp; done) | (simp; omega) | (unfold maxLen; omega) | (unfold maxLen; simp; done) | (unfold maxLen; simp; omega)) (fun g hg => ?_)
          refine stop_storeW encInt 0 tabOk rfl rfl rfl rfl rfl rfl rfl rfl hg (((xs.take j).filter fun x => !(x == t)).length) 0 (xs[j]) rfl (by first | omega | (simp; done) | (simp; omega) | (unfold maxLen; omega) | (unfold maxLen; simp; done) | (unfold maxLen; simp; omega)) rfl [.int .i64 (xs[j])] (fun _ => rfl) rfl ?_
          refine ⟨⟨j + 1, Q.set ((xs.take j).filter fun x => !(x == t)).length xs[j], by omega, by simpa using hl, g1, g2⟩, ?_, by simp; omega⟩
          refine weak_mk [0, 1] ?_ ?_ ?_ ?_ ?_ rfl rfl
          · repeat (first | exact trivial | refine ⟨⟨_, rfl, (by first | exact .of rfl | exact .lit rfl | exact .of (by first | ((first | exact congrArg (fun z => SV.v (Value.int .i64 z)) hw | exact congrArg (fun z => SV.v (Value.int .i64 z)) hw2 | (simp; done)))) | exact .lit (by first | ((first | exact congrArg (fun z => SV.v (Value.int .i64 z)) hw | exact congrArg (fun z => SV.v (Value.int .i64 z)) hw2 | (simp; done))))), (by first | exact trivial | exact Nat.le_of_ble_eq_true rfl)⟩, ?_⟩)
          · repeat (first | exact trivial | refine ⟨⟨(by first | exact .head _ | exact .tail _ (.head _) | exact .tail _ (.tail _ (.head _)) | exact .tail _ (.tail _ (.tail _ (.head _))) | exact .tail _ (.tail _ (.tail _ (.tail _ (.head _)))) | exact .tail _ (.tail _ (.tail _ (.tail _ (.tail _ (.head _))))) | exact .tail _ (.tail _ (.tail _ (.tail _ (.tail _ (.tail _ (.head _)))))) | exact .tail _ (.tail _ (.tail _ (.tail _ (.tail _ (.tail _ (.tail _ (.head _))))))) | exact .tail _ (.tail _ (.tail _ (.tail _ (.tail _ (.tail _ (.tail _ (.tail _ (.head _)))))))) | exact .tail _ (.tail _ (.tail _ (.tail _ (.tail _ (.tail _ (.tail _ (.tail _ (.tail _ (.head _)))))))))), Nat.le_of_ble_eq_true rfl⟩, ?_⟩)
          · repeat (first | exact trivial | refine ⟨⟨_, rfl, (by first | exact .of rfl | exact .lit rfl | exact .of (by first | ((first | exact congrArg (fun z => SV.v (Value.int .i64 z)) hw | exact congrArg (fun z => SV.v (Value.int .i64 z)) hw2 | (simp; done)))) | exact .lit (by first | ((first | exact congrArg (fun z => SV.v (Value.int .i64 z)) hw | exact congrArg (fun z => SV.v (Value.int .i64 z)) hw2 | (simp; done))))), (by first | exact trivial | exact Nat.le_of_ble_eq_true rfl)⟩, ?_⟩)
          · repeat (first | exact trivial | refine ⟨⟨_, rfl⟩, ?_⟩)
          · repeat (first | exact trivial | refine ⟨.inl ⟨_, rfl, (by first | rfl | ((first | exact congrArg (fun z => SV.v (Value.int .i64 z)) hw | exact congrArg (fun z => SV.v (Value.int .i64 z)) hw2 | (simp; done))))⟩, ?_⟩ | refine ⟨.inr ⟨Nat.le_of_ble_eq_true rfl, rfl, rfl, rfl, rfl⟩, ?_⟩)
        · have hp : (!(xs[j] == t)) = false := h
          obtain ⟨g1, g2⟩ := thin_skip (p := fun x => !(x == t)) hlt hp hk hr
          have hfs : (xs.take (j + 1)).filter (fun x => !(x == t)) = (xs.take j).filter fun x => !(x == t) := by rw [filter_succ hlt, if_neg (by rw [hp]; simp)]; simp
          refine ⟨⟨j + 1, Q, by omega, hl, g1, g2⟩, ?_, by simp; omega⟩
          refine weak_mk [0, 1] ?_ ?_ ?_ ?_ ?_ rfl rfl
          · repeat (first | exact trivial | refine ⟨⟨_, rfl, (by first | exact .of rfl | exact .lit rfl | exact .of (by first | ((first | exact congrArg (fun z => SV.v (Value.int .i64 z)) hw | (simp only [hfs]; done)))) | exact .lit (by first | ((first | exact congrArg (fun z => SV.v (Value.int .i64 z)) hw | (simp only [hfs]; done))))), (by first | exact trivial | exact Nat.le_of_ble_eq_true rfl)⟩, ?_⟩)
          · repeat (first | exact trivial | refine ⟨⟨(by first | exact .head _ | exact .tail _ (.head _) | exact .tail _ (.tail _ (.head _)) | exact .tail _ (.tail _ (.tail _ (.head _))) | exact .tail _ (.tail _ (.tail _ (.tail _ (.head _)))) | exact .tail _ (.tail _ (.tail _ (.tail _ (.tail _ (.head _))))) | exact .tail _ (.tail _ (.tail _ (.tail _ (.tail _ (.tail _ (.head _)))))) | exact .tail _ (.tail _ (.tail _ (.tail _ (.tail _ (.tail _ (.tail _ (.head _))))))) | exact .tail _ (.tail _ (.tail _ (.tail _ (.tail _ (.tail _ (.tail _ (.tail _ (.head _)))))))) | exact .tail _ (.tail _ (.tail _ (.tail _ (.tail _ (.tail _ (.tail _ (.tail _ (.tail _ (.head _)))))))))), Nat.le_of_ble_eq_true rfl⟩, ?_⟩)
          · repeat (first | exact trivial | refine ⟨⟨_, rfl, (by first | exact .of rfl | exact .lit rfl | exact .of (by first | ((first | exact congrArg (fun z => SV.v (Value.int .i64 z)) hw | (simp only [hfs]; done)))) | exact .lit (by first | ((first | exact congrArg (fun z => SV.v (Value.int .i64 z)) hw | (simp only [hfs]; done))))), (by first | exact trivial | exact Nat.le_of_ble_eq_true rfl)⟩, ?_⟩)
          · repeat (first | exact trivial | refine ⟨⟨_, rfl⟩, ?_⟩)
          · repeat (first | exact trivial | refine ⟨.inl ⟨_, rfl, (by first | rfl | ((first | exact congrArg (fun z => SV.v (Value.int .i64 z)) hw | (simp only [hfs]; done))))⟩, ?_⟩ | refine ⟨.inr ⟨Nat.le_of_ble_eq_true rfl, rfl, rfl, rfl, rfl⟩, ?_⟩)
      · have hge : xs.length ≤ j := by simp only [hl] at h; simpa using h
        have hje : xs.take j = xs := List.take_of_length_le hge
        rw [hje] at hk ha ⊢
        have hal : (xs.filter fun x => !(x == t)).length ≤ Q.length := by omega
        refine stop_cut tabOk rfl rfl rfl rfl ⟨rfl, rfl⟩ rfl rfl (by first | exact rdAt 0 rfl | exact rdOwnAt 0 rfl | exact rdAt 1 rfl | exact rdOwnAt 1 rfl | exact rdAt 2 rfl | exact rdOwnAt 2 rfl | exact rdAt 3 rfl | exact rdOwnAt 3 rfl | exact rdAt 4 rfl | exact rdOwnAt 4 rfl | exact rdAt 5 rfl | exact rdOwnAt 5 rfl | exact rdAt 6 rfl | exact rdOwnAt 6 rfl | exact rdAt 7 rfl | exact rdOwnAt 7 rfl | exact rdAt 8 rfl | exact rdOwnAt 8 rfl | exact rdAt 9 rfl | exact rdOwnAt 9 rfl | exact rdAt 10 rfl | exact rdOwnAt 10 rfl | exact rdAt 11 rfl | exact rdOwnAt 11 rfl | exact rdAt 12 rfl | exact rdOwnAt 12 rfl | exact rdAt 13 rfl | exact rdOwnAt 13 rfl | exact rdAt 14 rfl | exact rdOwnAt 14 rfl | exact rdAt 15 rfl | exact rdOwnAt 15 rfl | exact rdAt 16 rfl | exact rdOwnAt 16 rfl | exact rdAt 17 rfl | exact rdOwnAt 17 rfl | exact rdAt 18 rfl | exact rdOwnAt 18 rfl | exact rdAt 19 rfl | exact rdOwnAt 19 rfl | exact rdAt 20 rfl | exact rdOwnAt 20 rfl | exact rdAt 21 rfl | exact rdOwnAt 21 rfl | exact rdAt 22 rfl | exact rdOwnAt 22 rfl | exact rdAt 23 rfl | exact rdOwnAt 23 rfl) ((xs.filter fun x => !(x == t)).length) (Q.length) ((Q.drop (xs.filter fun x => !(x == t)).length)).length rfl rfl (by first | omega | (simp; done) | (simp; omega) | (unfold maxLen; omega) | (unfold maxLen; simp; done) | (unfold maxLen; simp; omega)) (by first | omega | (simp; done) | (simp; omega) | (unfold maxLen; omega) | (unfold maxLen; simp; done) | (unfold maxLen; simp; omega)) (by first | omega | (simp; done) | (simp; omega) | (unfold maxLen; omega) | (unfold maxLen; simp; done) | (unfold maxLen; simp; omega)) ?_
        refine stop_own 0 rfl (show 0 < Q.length by omega) (fun g hg hc1 hc2 => ?_)
        have hc3 : Q.length ≤ i.c := hc1
        refine stop_clear encInt 0 (z0 := 0) tabOk rfl rfl rfl rfl ((xs.filter fun x => !(x == t)).length) ((Q.drop (xs.filter fun x => !(x == t)).length).length) rfl rfl rfl rfl (by decide) rfl rfl (by omega) ⟨g, hg⟩ (by first | omega | (simp; done) | (simp; omega) | (unfold maxLen; omega) | (unfold maxLen; simp; done) | (unfold maxLen; simp; omega)) (by first | omega | (simp; done) | (simp; omega) | (unfold maxLen; omega) | (unfold maxLen; simp; done) | (unfold maxLen; simp; omega)) ?_
        refine stop_cut2 tabOk rfl rfl rfl rfl ⟨rfl, rfl⟩ rfl rfl hc3 0 (xs.filter fun x => !(x == t)).length (xs.filter fun x => !(x == t)).length rfl rfl (Nat.zero_le _) (by omega) rfl ?_
        exact retG [0] ⟨rfl, rfl⟩ ⟨.inl ⟨_, rfl, (by first | rfl | ((first | (simp only [hk]; done) | (simp only [resV, SV.den, cut0, hk]; done))))⟩, trivial⟩ rfl ⟨rfl, trivial⟩ (fun _ => (by first | rfl | ((first | (simp only [hk]; done) | (simp only [resV, SV.den, cut0, hk]; done)))))
theorem not_mem_filterL {xs : List Letter} {t : Int} (h : t ∉ xs.map Letter.t) : xs.filter (fun x => !(x.t == t)) = xs := by
  rw [List.filter_eq_self]
  intro x hx
  simp
  rintro rfl; exact h (List.mem_map_of_mem hx)

set_option maxHeartbeats 4000000 in
set_option maxRecDepth 100000 in
theorem deleteL_c (i : Sl) (xs : List Letter) (t : Int) (ga : Nat) (w : World) (h : AtG w [own i 39 cLet 2 xs] [varI ga t]) (hb : xs.length ≤ 4294967296) :
    Calls Try.prog 60 #[i.val xs.length, fnV 61 ga] w (RetG w [own i 39 cLet 2 xs] fun v L => v = i.val (xs.filter fun x => !(x.t == t)).length ∧ L = [own i 39 cLet 2 (xs.filter fun x => !(x.t == t))]) := by
  refine callsG_fn Try.func60 rfl tabOk w _ rfl _ rfl _ _ h ⟨rfl, rfl, trivial⟩ _ _ rfl rfl ?_
  refine stop_call _ cl75 rfl rfl rfl rfl ⟨rfl, rfl⟩ (fun A w hW => (indexL_c i xs t ga w ⟨hW.rdOwn 0 rfl, hW.varAt 1 rfl, trivial⟩ hb)) ?_
  rintro v L ⟨rfl, rfl⟩
  refine CaseB.mk (fun h1 => ?_) (fun h1 => ?_)
  · have hn : t ∉ xs.map Letter.t := fun hm => by have := (atM_mem (xs.map Letter.t) t).2 hm; simp at h1; omega
    have hf := not_mem_filterL hn
    exact retG [0] ⟨rfl, rfl⟩ ⟨.inl ⟨_, rfl, (by first | rfl | ((simp only [hf, resV, SV.den])))⟩, trivial⟩ rfl ⟨rfl, trivial⟩ (fun _ => (by first | rfl | ((simp only [hf, resV, SV.den]))))
  · have h0 : 0 ≤ atM (xs.map Letter.t) t := by
      rcases Classical.em (t ∈ xs.map Letter.t) with hm | hm
      · exact (atM_mem (xs.map Letter.t) t).2 hm
      · rw [atM_none hm] at h1; simp at h1
    obtain ⟨k0, hk0', e0, e1, e2⟩ := atM_of_ge h0
    have hk0 : k0 < xs.length := by simpa using hk0'
    have e1 : xs[k0].t = t := by simpa using e1
    have e2 : t ∉ (xs.take k0).map Letter.t := by rw [List.map_take]; exact e2
    have hw0 := wrapN k0 _ hk0 hb
    have hf0 : (xs.take (k0 + 1)).filter (fun x => !(x.t == t)) = xs.take k0 := by rw [filter_succ hk0, not_mem_filterL e2]; simp [e1]
    refine LoopW.mk ⟨Thin xs (fun x => !(x.t == t)),
      fun y => .mk [(0, .v (i.val y.Q.length)), (1, .v (fnV 61 ga)), (5, .v (.int .i64 (((xs.take y.j).filter fun x => !(x.t == t)).length : Int))), (6, .v (.int .i64 (y.j : Int)))] 0 0 [] [] [own i 39 cLet 2 y.Q, varI ga t],
      fun y => xs.length - y.j, ⟨k0 + 1, xs, by omega, rfl, by rw [hf0]; simp, rfl⟩, ?_, ?_⟩
    · refine weak_mk [0, 1] ?_ ?_ ?_ ?_ ?_ rfl rfl
      · repeat (first | exact trivial | refine ⟨⟨_, rfl, (by first | exact .of rfl | exact .lit rfl | exact .of (by first | ((first | (simp only [hf0, List.length_take, Nat.min_eq_left (Nat.le_of_lt hk0), e0]; done) | (rw [e0]; exact congrArg (fun z => SV.v (Value.int .i64 z)) hw0)))) | exact .lit (by first | ((first | (simp only [hf0, List.length_take, Nat.min_eq_left (Nat.le_of_lt hk0), e0]; done) | (rw [e0]; exact congrArg (fun z => SV.v (Value.int .i64 z)) hw0))))), (by first | exact trivial | exact Nat.le_of_ble_eq_true rfl)⟩, ?_⟩)
      · repeat (first | exact trivial | refine ⟨⟨(by first | exact .head _ | exact .tail _ (.head _) | exact .tail _ (.tail _ (.head _)) | exact .tail _ (.tail _ (.tail _ (.head _))) | exact .tail _ (.tail _ (.tail _ (.tail _ (.head _)))) | exact .tail _ (.tail _ (.tail _ (.tail _ (.tail _ (.head _))))) | exact .tail _ (.tail _ (.tail _ (.tail _ (.tail _ (.tail _ (.head _)))))) | exact .tail _ (.tail _ (.tail _ (.tail _ (.tail _ (.tail _ (.tail _ (.head _))))))) | exact .tail _ (.tail _ (.tail _ (.tail _ (.tail _ (.tail _ (.tail _ (.tail _ (.head _)))))))) | exact .tail _ (.tail _ (.tail _ (.tail _ (.tail _ (.tail _ (.tail _ (.tail _ (.tail _ (.head _)))))))))), Nat.le_of_ble_eq_true rfl⟩, ?_⟩)
      · repeat (first | exact trivial | refine ⟨⟨_, rfl, (by first | exact .of rfl | exact .lit rfl | exact .of (by first | ((first | (simp only [hf0, List.length_take, Nat.min_eq_left (Nat.le_of_lt hk0), e0]; done) | (rw [e0]; exact congrArg (fun z => SV.v (Value.int .i64 z)) hw0)))) | exact .lit (by first | ((first | (simp only [hf0, List.length_take, Nat.min_eq_left (Nat.le_of_lt hk0), e0]; done) | (rw [e0]; exact congrArg (fun z => SV.v (Value.int .i64 z)) hw0))))), (by first | exact trivial | exact Nat.le_of_ble_eq_true rfl)⟩, ?_⟩)
      · repeat (first | exact trivial | refine ⟨⟨_, rfl⟩, ?_⟩)
      · repeat (first | exact trivial | refine ⟨.inl ⟨_, rfl, (by first | rfl | ((first | (simp only [hf0, List.length_take, Nat.min_eq_left (Nat.le_of_lt hk0), e0]; done) | (rw [e0]; exact congrArg (fun z => SV.v (Value.int .i64 z)) hw0))))⟩, ?_⟩ | refine ⟨.inr ⟨Nat.le_of_ble_eq_true rfl, rfl, rfl, rfl, rfl⟩, ?_⟩)
    · rintro ⟨j, Q, hj, hl, hk, hr⟩
      have ha := filter_le xs (fun x => !(x.t == t)) j
      refine CaseB.mk (fun h => ?_) (fun h => ?_)
      · have hlt : j < xs.length := by simp only [hl] at h; simpa using h
        have hlQ : j < Q.length := by omega
        have hq : Q[j] = xs[j] := thin_get ⟨j, Q, hj, hl, hk, hr⟩ hlt
        have hw := wrapN j _ hlt hb
        refine stop_idx encLet tabOk rfl rfl rfl rfl rfl ⟨rfl, rfl⟩ (by first | exact rdAt 0 rfl | exact rdOwnAt 0 rfl | exact rdAt 1 rfl | exact rdOwnAt 1 rfl | exact rdAt 2 rfl | exact rdOwnAt 2 rfl | exact rdAt 3 rfl | exact rdOwnAt 3 rfl | exact rdAt 4 rfl | exact rdOwnAt 4 rfl | exact rdAt 5 rfl | exact rdOwnAt 5 rfl | exact rdAt 6 rfl | exact rdOwnAt 6 rfl | exact rdAt 7 rfl | exact rdOwnAt 7 rfl | exact rdAt 8 rfl | exact rdOwnAt 8 rfl | exact rdAt 9 rfl | exact rdOwnAt 9 rfl | exact rdAt 10 rfl | exact rdOwnAt 10 rfl | exact rdAt 11 rfl | exact rdOwnAt 11 rfl | exact rdAt 12 rfl | exact rdOwnAt 12 rfl | exact rdAt 13 rfl | exact rdOwnAt 13 rfl | exact rdAt 14 rfl | exact rdOwnAt 14 rfl | exact rdAt 15 rfl | exact rdOwnAt 15 rfl | exact rdAt 16 rfl | exact rdOwnAt 16 rfl | exact rdAt 17 rfl | exact rdOwnAt 17 rfl | exact rdAt 18 rfl | exact rdOwnAt 18 rfl | exact rdAt 19 rfl | exact rdOwnAt 19 rfl | exact rdAt 20 rfl | exact rdOwnAt 20 rfl | exact rdAt 21 rfl | exact rdOwnAt 21 rfl | exact rdAt 22 rfl | exact rdOwnAt 22 rfl | exact rdAt 23 rfl | exact rdOwnAt 23 rfl) j rfl hlQ (fun ad => ?_)
        refine stop_callV _ cl61 rfl rfl rfl rfl ⟨rfl, rfl⟩ (fun A w hW => (isT1_c _ t ga w ⟨hW.varAt 1 rfl, trivial⟩)) ?_
        rintro v L ⟨rfl, rfl⟩
        rw [hq]
        refine CaseB.mk (fun h => ?_) (fun h => ?_)
        · have hp : (!(xs[j].t == t)) = true := h
          obtain ⟨g1, g2⟩ := thin_keep (p := fun x => !(x.t == t)) hlt hl hp hk hr
          have hfs : (((xs.take (j + 1)).filter fun x => !(x.t == t)).length : Int) = (((xs.take j).filter fun x => !(x.t == t)).length + 1 : Nat) := by rw [filter_succ hlt, if_pos hp]; simp
          have hw2 : IntKind.i64.wrap ((((xs.take j).filter fun x => !(x.t == t)).length : Int) + 1) = (((xs.take (j + 1)).filter fun x => !(x.t == t)).length : Int) := by rw [hfs]; exact wrapN _ xs.length (by omega) hb
          refine stop_idxW encLet 0 tabOk rfl rfl rfl rfl rfl ⟨rfl, rfl⟩ rfl (by first | rfl | (simp; done)) (((xs.take j).filter fun x => !(x.t == t)).length) rfl (by first | omega | (simp; done) | (simp; omega) | (unfold maxLen; omega) | (unfold maxLen; simp; done) | (unfold maxLen; simp; omega)) (fun g hg => ?_)
          refine stop_storeW encLet 0 tabOk rfl rfl rfl rfl rfl rfl rfl rfl hg (((xs.take j).filter fun x => !(x.t == t)).length) 0 (xs[j]) rfl (by first | omega | (simp; done) | (simp; omega) | (unfold maxLen; omega) | (unfold maxLen; simp; done) | (unfold maxLen; simp; omega)) rfl [.int .i64 xs[j].t, .int .i64 xs[j].v] (fun _ => rfl) rfl ?_
          refine ⟨⟨j + 1, Q.set ((xs.take j).filter fun x => !(x.t == t)).length xs[j], by omega, by simpa using hl, g1, g2⟩, ?_, by simp; omega⟩
          refine weak_mk [0, 1] ?_ ?_ ?_ ?_ ?_ rfl rfl
          · repeat (first | exact trivial | refine ⟨⟨_, rfl, (by first | exact .of rfl | exact .lit rfl | exact .of (by first | ((first | exact congrArg (fun z => SV.v (Value.int .i64 z)) hw | exact congrArg (fun z => SV.v (Value.int .i64 z)) hw2 | (simp; done)))) | exact .lit (by first | ((first | exact congrArg (fun z => SV.v (Value.int .i64 z)) hw | exact congrArg (fun z => SV.v (Value.int .i64 z)) hw2 | (simp; done))))), (by first | exact trivial | exact Nat.le_of_ble_eq_true rfl)⟩, ?_⟩)
          · repeat (first | exact trivial | refine ⟨⟨(by first | exact .head _ | exact .tail _ (.head _) | exact .tail _ (.tail _ (.head _)) | exact .tail _ (.tail _ (.tail _ (.head _))) | exact .tail _ (.tail _ (.tail _ (.tail _ (.head _)))) | exact .tail _ (.tail _ (.tail _ (.tail _ (.tail _ (.head _))))) | exact .tail _ (.tail _ (.tail _ (.tail _ (.tail _ (.tail _ (.head _)))))) | exact .tail _ (.tail _ (.tail _ (.tail _ (.tail _ (.tail _ (.tail _ (.head _))))))) | exact .tail _ (.tail _ (.tail _ (.tail _ (.tail _ (.tail _ (.tail _ (.tail _ (.head _)))))))) | exact .tail _ (.tail _ (.tail _ (.tail _ (.tail _ (.tail _ (.tail _ (.tail _ (.tail _ (.head _)))))))))), Nat.le_of_ble_eq_true rfl⟩, ?_⟩)
          · repeat (first | exact trivial | refine ⟨⟨_, rfl, (by first | exact .of rfl | exact .lit rfl | exact .of (by first | ((first | exact congrArg (fun z => SV.v (Value.int .i64 z)) hw | exact congrArg (fun z => SV.v (Value.int .i64 z)) hw2 | (simp; done)))) | exact .lit (by first | ((first | exact congrArg (fun z => SV.v (Value.int .i64 z)) hw | exact congrArg (fun z => SV.v (Value.int .i64 z)) hw2 | (simp; done))))), (by first | exact trivial | exact Nat.le_of_ble_eq_true rfl)⟩, ?_⟩)
          · repeat (first | exact trivial | refine ⟨⟨_, rfl⟩, ?_⟩)
          · repeat (first | exact trivial | refine ⟨.inl ⟨_, rfl, (by first | rfl | ((first | exact congrArg (fun z => SV.v (Value.int .i64 z)) hw | exact congrArg (fun z => SV.v (Value.int .i64 z)) hw2 | (simp; done))))⟩, ?_⟩ | refine ⟨.inr ⟨Nat.le_of_ble_eq_true rfl, rfl, rfl, rfl, rfl⟩, ?_⟩)
        · have hp : (!(xs[j].t == t)) = false := h
          obtain ⟨g1, g2⟩ := thin_skip (p := fun x => !(x.t == t)) hlt hp hk hr
          have hfs : (xs.take (j + 1)).filter (fun x => !(x.t == t)) = (xs.take j).filter fun x => !(x.t == t) := by rw [filter_succ hlt, if_neg (by rw [hp]; simp)]; simp
          refine ⟨⟨j + 1, Q, by omega, hl, g1, g2⟩, ?_, by simp; omega⟩
          refine weak_mk [0, 1] ?_ ?_ ?_ ?_ ?_ rfl rfl
          · repeat (first | exact trivial | refine ⟨⟨_, rfl, (by first | exact .of rfl | exact .lit rfl | exact .of (by first | ((first | exact congrArg (fun z => SV.v (Value.int .i64 z)) hw | (simp only [hfs]; done)))) | exact .lit (by first | ((first | exact congrArg (fun z => SV.v (Value.int .i64 z)) hw | (simp only [hfs]; done))))), (by first | exact trivial | exact Nat.le_of_ble_eq_true rfl)⟩, ?_⟩)
          · repeat (first | exact trivial | refine ⟨⟨(by first | exact .head _ | exact .tail _ (.head _) | exact .tail _ (.tail _ (.head _)) | exact .tail _ (.tail _ (.tail _ (.head _))) | exact .tail _ (.tail _ (.tail _ (.tail _ (.head _)))) | exact .tail _ (.tail _ (.tail _ (.tail _ (.tail _ (.head _))))) | exact .tail _ (.tail _ (.tail _ (.tail _ (.tail _ (.tail _ (.head _)))))) | exact .tail _ (.tail _ (.tail _ (.tail _ (.tail _ (.tail _ (.tail _ (.head _))))))) | exact .tail _ (.tail _ (.tail _ (.tail _ (.tail _ (.tail _ (.tail _ (.tail _ (.head _)))))))) | exact .tail _ (.tail _ (.tail _ (.tail _ (.tail _ (.tail _ (.tail _ (.tail _ (.tail _ (.head _)))))))))), Nat.le_of_ble_eq_true rfl⟩, ?_⟩)
          · repeat (first | exact trivial | refine ⟨⟨_, rfl, (by first | exact .of rfl | exact .lit rfl | exact .of (by first | ((first | exact congrArg (fun z => SV.v (Value.int .i64 z)) hw | (simp only [hfs]; done)))) | exact .lit (by first | ((first | exact congrArg (fun z => SV.v (Value.int .i64 z)) hw | (simp only [hfs]; done))))), (by first | exact trivial | exact Nat.le_of_ble_eq_true rfl)⟩, ?_⟩)
          · repeat (first | exact trivial | refine ⟨⟨_, rfl⟩, ?_⟩)
          · repeat (first | exact trivial | refine ⟨.inl ⟨_, rfl, (by first | rfl | ((first | exact congrArg (fun z => SV.v (Value.int .i64 z)) hw | (simp only [hfs]; done))))⟩, ?_⟩ | refine ⟨.inr ⟨Nat.le_of_ble_eq_true rfl, rfl, rfl, rfl, rfl⟩, ?_⟩)
      · have hge : xs.length ≤ j := by simp only [hl] at h; simpa using h
        have hje : xs.take j = xs := List.take_of_length_le hge
        rw [hje] at hk ha ⊢
        have hal : (xs.filter fun x => !(x.t == t)).length ≤ Q.length := by omega
        refine stop_cut tabOk rfl rfl rfl rfl ⟨rfl, rfl⟩ rfl rfl (by first | exact rdAt 0 rfl | exact rdOwnAt 0 rfl | exact rdAt 1 rfl | exact rdOwnAt 1 rfl | exact rdAt 2 rfl | exact rdOwnAt 2 rfl | exact rdAt 3 rfl | exact rdOwnAt 3 rfl | exact rdAt 4 rfl | exact rdOwnAt 4 rfl | exact rdAt 5 rfl | exact rdOwnAt 5 rfl | exact rdAt 6 rfl | exact rdOwnAt 6 rfl | exact rdAt 7 rfl | exact rdOwnAt 7 rfl | exact rdAt 8 rfl | exact rdOwnAt 8 rfl | exact rdAt 9 rfl | exact rdOwnAt 9 rfl | exact rdAt 10 rfl | exact rdOwnAt 10 rfl | exact rdAt 11 rfl | exact rdOwnAt 11 rfl | exact rdAt 12 rfl | exact rdOwnAt 12 rfl | exact rdAt 13 rfl | exact rdOwnAt 13 rfl | exact rdAt 14 rfl | exact rdOwnAt 14 rfl | exact rdAt 15 rfl | exact rdOwnAt 15 rfl | exact rdAt 16 rfl | exact rdOwnAt 16 rfl | exact rdAt 17 rfl | exact rdOwnAt 17 rfl | exact rdAt 18 rfl | exact rdOwnAt 18 rfl | exact rdAt 19 rfl | exact rdOwnAt 19 rfl | exact rdAt 20 rfl | exact rdOwnAt 20 rfl | exact rdAt 21 rfl | exact rdOwnAt 21 rfl | exact rdAt 22 rfl | exact rdOwnAt 22 rfl | exact rdAt 23 rfl | exact rdOwnAt 23 rfl) ((xs.filter fun x => !(x.t == t)).length) (Q.length) ((Q.drop (xs.filter fun x => !(x.t == t)).length)).length rfl rfl (by first | omega | (simp; done) | (simp; omega) | (unfold maxLen; omega) | (unfold maxLen; simp; done) | (unfold maxLen; simp; omega)) (by first | omega | (simp; done) | (simp; omega) | (unfold maxLen; omega) | (unfold maxLen; simp; done) | (unfold maxLen; simp; omega)) (by first | omega | (simp; done) | (simp; omega) | (unfold maxLen; omega) | (unfold maxLen; simp; done) | (unfold maxLen; simp; omega)) ?_
        refine stop_own 0 rfl (show 0 < Q.length by omega) (fun g hg hc1 hc2 => ?_)
        have hc3 : Q.length ≤ i.c := hc1
        refine stop_clear encLet 0 (z0 := (⟨0, 0⟩ : Letter)) tabOk rfl rfl rfl rfl ((xs.filter fun x => !(x.t == t)).length) ((Q.drop (xs.filter fun x => !(x.t == t)).length).length) rfl rfl rfl rfl (by decide) rfl rfl (by omega) ⟨g, hg⟩ (by first | omega | (simp; done) | (simp; omega) | (unfold maxLen; omega) | (unfold maxLen; simp; done) | (unfold maxLen; simp; omega)) (by first | omega | (simp; done) | (simp; omega) | (unfold maxLen; omega) | (unfold maxLen; simp; done) | (unfold maxLen; simp; omega)) ?_
        refine stop_cut2 tabOk rfl rfl rfl rfl ⟨rfl, rfl⟩ rfl rfl hc3 0 (xs.filter fun x => !(x.t == t)).length (xs.filter fun x => !(x.t == t)).length rfl rfl (Nat.zero_le _) (by omega) rfl ?_
        exact retG [0] ⟨rfl, rfl⟩ ⟨.inl ⟨_, rfl, (by first | rfl | ((first | (simp only [hk]; done) | (simp only [resV, SV.den, cut0, hk]; done))))⟩, trivial⟩ rfl ⟨rfl, trivial⟩ (fun _ => (by first | rfl | ((first | (simp only [hk]; done) | (simp only [resV, SV.den, cut0, hk]; done)))))
end Go.Proofs.Ytanakfeaifggoaa

