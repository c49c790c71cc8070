/- FnWaitsFor: texts that its proof stands on, part 4. -/
import Derived.Test.YtjkkoonennpceaaGreatQWaitsForc
namespace Go.Proofs.YtjkkoonennpceaaGreat
open Go Go.Sx Go.RowKit
theorem fmtNums_at {out : Str} {l : List Int} {k : Nat} (h : k < l.length) : fmtNums out (l.drop k) = fmtNums ((out ++ [32]) ++ decM l[k]) (l.drop (k + 1)) := by
 rw [List.drop_eq_getElem_cons h, fmtNums]
theorem fmtNums_len : ∀ (l : List Int) (out : Str), (fmtNums out l).length ≤ out.length + 21 * l.length
 | [], out => by simp [fmtNums]
 | x :: r, out => by
   have h := fmtNums_len r ((out ++ [32]) ++ decM x)
   have h2 := decM_len x
   simp only [fmtNums, List.length_append, List.length_cons, List.length_nil] at h ⊢
   omega
theorem listM_len (wd : Str) (l : List Int) : (listM wd l).length ≤ wd.length + 21 * l.length + 1 := by
 have h := fmtNums_len l wd
 unfold listM
 split
 · simp
 · simp only [List.length_append, List.length_cons, List.length_nil]; omega
set_option maxHeartbeats 4000000 in
set_option maxRecDepth 100000 in
theorem list_c (wd : Str) (i : Sl) (l : List Int) (w : World) (h : At w [slo i cInt 1 l]) (hw : wd.length ≤ 1000) (hl : l.length ≤ 1000) (hn : ∀ x ∈ l, nearN x) :
   Calls Tryz.prog 173 #[.string (bs wd), i.val l.length] w (Ret w fun v L => v = .string (bs (listM wd l)) ∧ L = []) := by
 refine calls2 Tryz.func173 rfl tabOk w _ rfl _ rfl _ h ⟨rfl, rfl, trivial⟩ _ _ (by decide) ?_
 apply CaseB.mk <;> intro g
 · have e : l = [] := List.eq_nil_of_length_eq_zero (by have g' : (l.length : Int) = 0 := z82; omega)
   rw [show listM wd l = [] from if_pos e]
   exact ret0 ⟨rfl, rfl⟩ (fun _ => rfl)
 have e : ¬ l = [] := fun e => by rw [e] at g; simp at g
 rw [show listM wd l = fmtNums wd l ++ [10] from if_neg e]
 refine LoopW.mk ⟨{ q : Nat × Str // q.1 ≤ l.length ∧ fmtNums wd l = fmtNums q.2 (l.drop q.1) ∧ q.2.length ≤ 1000 + 21 * q.1 },
   fun q => .mk [(1, .v (i.val l.length)), (5, .v (.string (bs q.1.2))), (6, .v (.int .i64 (q.1.1 : Int)))] 0 0 [] [] [slo i cInt 1 l],
   fun q => l.length - q.1.1, ⟨(0, wd), Nat.zero_le _, rfl, by simpa using hw⟩, ?_, ?_⟩
 · exact weak_mk [0] zw2 zw0 zw2 zw5 zw4 rfl rfl
 rintro ⟨⟨k, out⟩, i1, i2, i3⟩
 simp only at i1 i2 i3 ⊢
 apply CaseB.mk <;> intro g
 · have hlt : k < l.length := by have := of_decide_eq_true g; omega
   have hw2 := e_succ k _ hlt (by omega)
   have hd := decM_len l[k]
   have hnk := hn _ (List.getElem_mem hlt)
   refine stop_bin rfl rfl rfl ⟨rfl, rfl⟩ (.string (bs (out ++ [32]))) (fun w => eqGuard_str w) (fun w => sadd_run z48 w) ?_
   refine stop_idx encInt tabOk rfl rfl rfl rfl rfl ⟨rfl, rfl⟩ z28 k rfl z34 (fun ad => ?_)
   refine stop_call _ cl177 rfl rfl rfl rfl ⟨rfl, rfl⟩ (fun A w hW => (dec_c _ w hnk.1 hnk.2)) ?_
   rintro v L ⟨rfl, rfl⟩
   refine stop_bin rfl rfl rfl ⟨rfl, rfl⟩ (.string (bs ((out ++ [32]) ++ (decM l[k])))) (fun w => eqGuard_str w) (fun w => sadd_run z48 w) ?_
   refine ⟨⟨(k + 1, (out ++ [32]) ++ decM l[k]), hlt, i2.trans (fmtNums_at hlt), by simp only [List.length_append, List.length_cons, List.length_nil]; omega⟩, ?_, by simp only; omega⟩
   exact weak_mk [0] zw8 zw0 zw8 zw5 zw17 rfl rfl
 have hge : l.length ≤ k := by have := of_decide_eq_false g; omega
 rw [List.drop_eq_nil_of_le hge, fmtNums] at i2
 refine stop_bin rfl rfl rfl ⟨rfl, rfl⟩ (.string (bs (out ++ [10]))) (fun w => eqGuard_str w) (fun w => sadd_run z48 w) ?_
 rw [i2]
 exact ret0 ⟨rfl, rfl⟩ (fun _ => rfl)
set_option maxHeartbeats 8000000 in
set_option maxRecDepth 100000 in
theorem line_c (line wd : Str) (w : World) (hb : line.length ≤ 1000) :
   Calls Tryz.prog 162 #[.string (bs line), .string (bs wd)] w (Ret w fun v L => ∃ (z : Sl) (ns : List Int) (b : Bool), v = .tuple #[z.val ns.length, .bool b] ∧ (b = false → lineM line wd = none) ∧ (b = true → lineM line wd = some ns) ∧ L = [own z 3 cInt 1 ns]) := by
 have hcl := cutM_len 32 line
 have hpt : ∀ x ∈ cutM 32 line, x.length ≤ 1000 := fun x hx => Nat.le_trans (cutM_part hx) hb
 have h0 : ¬ ((cutM 32 line).headD [] = wd ∧ 2 ≤ (cutM 32 line).length) → lineM line wd = none := fun h => if_neg h
 have h1 : ((cutM 32 line).headD [] = wd ∧ 2 ≤ (cutM 32 line).length) → lineM line wd = match numsM (((cutM 32 line).drop 1).take 5) with | none => none | some ns => if ns.length + 1 = (cutM 32 line).length then some ns else none := fun h => if_pos h
 generalize lineM line wd = M at h0 h1 ⊢
 refine calls2 Tryz.func162 rfl tabOk w _ rfl _ rfl [] trivial trivial _ _ (by decide) ?_
 refine stop_call _ cl161 rfl rfl rfl rfl ⟨rfl, rfl⟩ (fun A w hW => (cut_c line 32 w (by omega))) ?_
 rintro v L ⟨y, rfl, rfl⟩
 generalize cutM 32 line = ps at hcl hpt h0 h1 ⊢
 refine AllSl.mk fun l0 => ?_
 have hp0 : 0 < ps.length := by omega
 have hhd : ps.headD [] = ps[0] := by
   cases ps with
   | nil => simp at hp0
   | cons a r => rfl
 rw [hhd] at h0 h1
 refine stop_idx encTxt tabOk rfl rfl rfl rfl rfl ⟨rfl, rfl⟩ (rdOwnAt 1 rfl) 0 rfl z34 (fun ad => ?_)
 refine stop_bin rfl rfl rfl ⟨rfl, rfl⟩ (.bool ((ps[0]) != wd)) (fun w => eqGuard_str w) (fun w => sne_run w) ?_
 apply CaseB.mk <;> intro g
 · have e := h0 (fun h => by rw [h.1] at g; simp at g)
   exact retw [0] ⟨l0, [], false, rfl, fun _ => e, fun h => z87, rfl⟩ z115 rfl ⟨rfl, trivial⟩ (fun _ => rfl)
 have e0 : ps[0] = wd := by simpa using g
 refine CaseB.mk (fun g2 => ?_) (fun g2 => ?_)
 · have e := h0 (fun h => by have := of_decide_eq_true g2; omega)
   exact retw [0] ⟨l0, [], false, rfl, fun _ => e, fun h => z87, rfl⟩ z115 rfl ⟨rfl, trivial⟩ (fun _ => rfl)
 have hM := h1 ⟨e0, by have := of_decide_eq_false g2; omega⟩
 clear h0 h1
 refine LoopW.mk ⟨{ q : Nat × Sl × List Int // 1 ≤ q.1 ∧ q.1 ≤ 6 ∧ q.1 ≤ ps.length ∧ numsM ((ps.drop 1).take 5) = behind q.2.2 (numsM ((ps.drop q.1).take (6 - q.1))) ∧ q.2.2.length + 1 = q.1 },
   fun q => .mk [(6, .v (y.val ps.length)), (7, .v (q.1.2.1.val q.1.2.2.length)), (8, .v (.int .i64 (q.1.1 : Int)))] 0 0 [] [] [own q.1.2.1 3 cInt 1 q.1.2.2, own y 9 cTxt 1 ps],
   fun q => 6 - q.1.1, ⟨(1, l0, []), Nat.le_refl _, by show 1 ≤ 6; omega, hcl.1, by simp only [behind, List.nil_append]; cases numsM ((ps.drop 1).take (6 - 1)) <;> rfl, rfl⟩, ?_, ?_⟩
 · exact weak_mk [0, 1] zw2 zw0 zw2 zw5 zw4 rfl rfl
 rintro ⟨⟨i, z, ns⟩, i1, i2, i3, i4, i5⟩
 simp only at i1 i2 i3 i4 i5 ⊢
 apply CaseB.mk <;> intro g
 refine CaseB.mk (fun g2 => ?_) (fun g2 => ?_)
 · have hlt : i < ps.length := by have := of_decide_eq_true g; omega
   have h6 : i < 6 := by have := of_decide_eq_true g2; omega
   have hw := e_succ i _ hlt (by omega)
   obtain ⟨m, hm⟩ : ∃ m, 6 - i = m + 1 := ⟨5 - i, by omega⟩
   have hd : (ps.drop i).take (6 - i) = ps[i] :: (ps.drop (i + 1)).take (6 - (i + 1)) := by rw [hm, drop_take hlt, show 6 - (i + 1) = m by omega]
   rw [hd] at i4
   refine stop_idx encTxt tabOk rfl rfl rfl rfl rfl ⟨rfl, rfl⟩ (rdOwnAt 1 rfl) i rfl z34 (fun ad => ?_)
   obtain ⟨pt, hpe⟩ : ∃ pt, pt = ps[i] := ⟨_, rfl⟩
   have hpl : pt.length ≤ 1000 := by rw [hpe]; exact hpt _ (List.getElem_mem hlt)
   rw [← hpe] at i4 ⊢
   refine stop_call _ cl171 rfl rfl rfl rfl ⟨rfl, rfl⟩ (fun A w hW => (snum_c pt w (by omega))) ?_
   rintro v L ⟨rfl, rfl⟩
   cases hn : numM pt with
   | none =>
     refine CaseB.mk (fun g3 => ?_) (fun g3 => by simp at g3)
     refine AllSl.mk fun l2 => ?_
     have e : M = none := by rw [hM, i4.trans (behind_none hn)]
     exact retw [0] ⟨l2, [], false, rfl, fun _ => e, fun h => z87, rfl⟩ z115 rfl ⟨rfl, trivial⟩ (fun _ => rfl)
   | some n =>
     refine CaseB.mk (fun g3 => by simp at g3) (fun g3 => ?_)
     refine AllSl.mk fun b3 => ?_
     refine stop_app encInt 1 tabOk (xs := ns) (ys := [n]) rfl rfl rfl rfl rfl rfl rfl rfl rfl (by decide) ⟨rfl, rfl⟩ rfl z28 z34 z34 (fun z3 => ?_)
     refine ⟨⟨(i + 1, z3, ns ++ [n]), show 1 ≤ i + 1 by omega, h6, hlt, i4.trans (behind_some hn), by simp; omega⟩, ?_, by simp only; omega⟩
     exact weak_mk [0, 2] zw1 zw0 zw1 zw5 zw3 rfl rfl
 have hfin : numsM ((ps.drop 1).take 5) = some ns := by
   rw [i4, show 6 - i = 0 by have := of_decide_eq_false g2; omega, List.take_zero]
   simp [numsM, behind]
 rotate_left
 have hfin : numsM ((ps.drop 1).take 5) = some ns := by
   rw [i4, List.drop_eq_nil_of_le z68, List.take_nil]
   simp [numsM, behind]
 rotate_left
 all_goals
   rw [hfin] at hM
   simp only at hM
   have hw1 : IntKind.i64.wrap ((ps.length : Int) - 1) = (ps.length : Int) - 1 := wrap_nn (by omega) (by omega)
   by_cases he : ns.length + 1 = ps.length
   · rw [if_pos he] at hM
     exact retw [0] ⟨z, ns, _, rfl, fun h => by rw [hw1] at h; have h' : ¬ (ns.length : Int) = (ps.length : Int) - 1 := z81; omega, fun _ => hM, rfl⟩ z115 rfl ⟨rfl, trivial⟩ (fun _ => rfl)
   · rw [if_neg he] at hM
     exact retw [0] ⟨z, ns, _, rfl, fun _ => hM, fun h => by rw [hw1] at h; have h' : (ns.length : Int) = (ps.length : Int) - 1 := z81; omega, rfl⟩ z115 rfl ⟨rfl, trivial⟩ (fun _ => rfl)
def opAtM (i : Nat) (s : Str) : Option Op := if i = 0 then parseOpM s else if s.head? = some 32 then parseOpM (s.drop 1) else none
def opsX (i : Nat) : List Str → Option (List Op)
 | [] => some []
 | s :: r => match opAtM i s with
   | none => none
   | some o => match opsG r with
     | none => none
     | some l => some (o :: l)
theorem opsX_0 : ∀ l : List Str, opsM l = opsX 0 l
 | [] => rfl
 | _ :: _ => rfl
theorem opsX_s {i : Nat} (h : 1 ≤ i) : ∀ l : List Str, opsG l = opsX i l
 | [] => rfl
 | s :: r => by simp only [opsG, opsX, opAtM, if_neg (show ¬ i = 0 by omega)]; rfl
def behindO (ns : List Op) (o : Option (List Op)) : Option (List Op) := match o with | none => none | some l => some (ns ++ l)
theorem behindO_some {ns : List Op} {s : Str} {r : List Str} {o : Op} {i : Nat} (h : opAtM i s = some o) : behindO ns (opsX i (s :: r)) = behindO (ns ++ [o]) (opsX (i + 1) r) := by
 rw [← opsX_s (by omega) r, opsX, h]
 cases opsG r with
 | none => rfl
 | some l => simp [behindO]
theorem behindO_none {ns : List Op} {s : Str} {r : List Str} {i : Nat} (h : opAtM i s = none) : behindO ns (opsX i (s :: r)) = none := by
 rw [opsX, h]; rfl
set_option maxHeartbeats 8000000 in
set_option maxRecDepth 100000 in
theorem threadP_c (line : Str) (w : World) (hb : line.length ≤ 1000) :
   Calls Tryz.prog 163 #[.string (bs line)] w (Ret w fun v L => ∃ (z : Sl) (ns : List Op) (b : Bool), v = .tuple #[z.val ns.length, .bool b] ∧ (b = false → threadM line = none) ∧ (b = true → threadM line = some ns) ∧ L = [own z 44 cOp 3 ns]) := by
 have hcl := cutM_len 44 (line.drop 7)
 have hdl : (line.drop 7).length ≤ 1000 := by simp; omega
 have hpt : ∀ x ∈ cutM 44 (line.drop 7), x.length ≤ 1000 := fun x hx => Nat.le_trans (cutM_part hx) hdl
 have h0 : line = [116, 104, 114, 101, 97, 100] → threadM line = some [] := fun h => if_pos h
 have h1 : line ≠ [116, 104, 114, 101, 97, 100] → (line.length < 7 ∨ line.take 7 ≠ [116, 104, 114, 101, 97, 100, 32]) → threadM line = none := fun h h2 => by rw [threadM, if_neg h, if_pos h2]
 have h2 : line ≠ [116, 104, 114, 101, 97, 100] → ¬ (line.length < 7 ∨ line.take 7 ≠ [116, 104, 114, 101, 97, 100, 32]) → threadM line = match opsX 0 ((cutM 44 (line.drop 7)).take 9) with | none => none | some l => if (cutM 44 (line.drop 7)).length ≤ 8 then some l else none := fun h h2 => by rw [threadM, if_neg h, if_neg h2, opsX_0]; rfl
 generalize threadM line = M at h0 h1 h2 ⊢
 refine calls1 Tryz.func163 rfl tabOk w _ rfl _ rfl [] trivial trivial _ (by decide) ?_
 refine AllSl.mk fun l0 => ?_
 refine stop_bin rfl rfl rfl ⟨rfl, rfl⟩ (.bool (line == [116, 104, 114, 101, 97, 100])) (fun w => eqGuard_str w) (fun w => seq_run w) ?_
 apply CaseB.mk <;> intro g
 · have e := h0 z82
   exact retw [0] ⟨l0, [], true, rfl, fun h => z87, fun _ => e, rfl⟩ z115 rfl ⟨rfl, trivial⟩ (fun _ => rfl)
 have n0 : line ≠ [116, 104, 114, 101, 97, 100] := by simpa using g
 refine stop_slen tabOk rfl rfl rfl rfl rfl rfl ⟨rfl, rfl⟩ ?_
 apply CaseB.mk <;> intro g
 · have e := h1 n0 (.inl (by have := of_decide_eq_true g; omega))
   exact retw [0] ⟨l0, [], false, rfl, fun _ => e, fun h => z87, rfl⟩ z115 rfl ⟨rfl, trivial⟩ (fun _ => rfl)
 have l7 : 7 ≤ line.length := by have := of_decide_eq_false g; omega
 refine stop_scut tabOk rfl rfl rfl ⟨rfl, rfl⟩ rfl rfl (0) (7) rfl rfl z34 z34 ?_
 have ht7 : (line.drop 0).take (7 - 0) = line.take 7 := rfl
 rw [ht7]
 refine stop_bin rfl rfl rfl ⟨rfl, rfl⟩ (.bool ((line.take 7) != [116, 104, 114, 101, 97, 100, 32])) (fun w => eqGuard_str w) (fun w => sne_run w) ?_
 refine CaseB.mk (fun g2 => ?_) (fun g2 => ?_)
 · have e := h1 n0 (.inr z79)
   exact retw [0] ⟨l0, [], false, rfl, fun _ => e, fun h => z87, rfl⟩ z115 rfl ⟨rfl, trivial⟩ (fun _ => rfl)
 have hM := h2 n0 (fun h => by
   rcases h with h | h
   · omega
   · exact h z79)
 clear h0 h1 h2
 refine stop_scut tabOk rfl rfl rfl ⟨rfl, rfl⟩ rfl rfl (7) (line.length) rfl rfl z34 z34 ?_
 have hd7 : (line.drop 7).take (line.length - 7) = line.drop 7 := List.take_of_length_le z70
 rw [hd7]
 refine stop_call _ cl161 rfl rfl rfl rfl ⟨rfl, rfl⟩ (fun A w hW => (cut_c (line.drop 7) 44 w (by omega))) ?_
 rintro v L ⟨y, rfl, rfl⟩
 generalize cutM 44 (line.drop 7) = ps at hcl hpt hM ⊢
 refine LoopW.mk ⟨{ q : Nat × Sl × List Op // q.1 ≤ 9 ∧ q.1 ≤ ps.length ∧ opsX 0 (ps.take 9) = behindO q.2.2 (opsX q.1 ((ps.drop q.1).take (9 - q.1))) ∧ q.2.2.length = q.1 },
   fun q => .mk [(4, .v (q.1.2.1.val q.1.2.2.length)), (5, .v (y.val ps.length)), (6, .v (.int .i64 (q.1.1 : Int)))] 0 0 [] [] [own q.1.2.1 44 cOp 3 q.1.2.2, own y 9 cTxt 1 ps],
   fun q => 9 - q.1.1, ⟨(0, l0, []), Nat.zero_le _, Nat.zero_le _, by simp only [behindO, List.nil_append, List.drop_zero]; cases opsX 0 (ps.take 9) <;> rfl, rfl⟩, ?_, ?_⟩
 · exact weak_mk [1, 0] zw2 zw0 zw2 zw5 zw4 rfl rfl
 rintro ⟨⟨i, z, ns⟩, i1, i2, i3, i4⟩
 simp only at i1 i2 i3 i4 ⊢
 apply CaseB.mk <;> intro g
 refine CaseB.mk (fun g2 => ?_) (fun g2 => ?_)
 · have hlt : i < ps.length := by have := of_decide_eq_true g; omega
   have h8 : i < 9 := by have := of_decide_eq_true g2; omega
   have hw := e_succ i _ hlt (by omega)
   obtain ⟨m, hm⟩ : ∃ m, 9 - i = m + 1 := ⟨8 - i, by omega⟩
   have hd : (ps.drop i).take (9 - i) = ps[i] :: (ps.drop (i + 1)).take (9 - (i + 1)) := by rw [hm, drop_take hlt, show 9 - (i + 1) = m by omega]
   rw [hd] at i3
   refine stop_idx encTxt tabOk rfl rfl rfl rfl rfl ⟨rfl, rfl⟩ (rdOwnAt 1 rfl) i rfl z34 (fun ad => ?_)
   obtain ⟨pt, hpe⟩ : ∃ pt, pt = ps[i] := ⟨_, rfl⟩
   have hpl : pt.length ≤ 1000 := by rw [hpe]; exact hpt _ (List.getElem_mem hlt)
   rw [← hpe] at i3 ⊢
   have hbad : opAtM i pt = none → M = none := fun h => by rw [hM, i3.trans (behindO_none h)]
   refine CaseB.mk (fun g3 => ?_) (fun g3 => ?_)
   · have hi0 : ¬ i = 0 := by have := of_decide_eq_true g3; omega
     have hop : opAtM i pt = if pt.head? = some 32 then parseOpM (pt.drop 1) else none := if_neg hi0
     refine stop_bin rfl rfl rfl ⟨rfl, rfl⟩ (.bool (pt == [])) (fun w => eqGuard_str w) (fun w => seq_run w) ?_
     refine CaseB.mk (fun g4 => ?_) (fun g4 => ?_)
     · have e0 : pt = [] := by simpa using g4
       have e := hbad (by rw [hop, e0]; rfl)
       refine AllSl.mk fun l2 => ?_
       exact retw [0] ⟨l2, [], false, rfl, fun _ => e, fun h => z87, rfl⟩ z115 rfl ⟨rfl, trivial⟩ (fun _ => rfl)
     have hpp : 0 < pt.length := by
       cases pt with
       | nil => simp at g4
       | cons a r => simp
     have hh : pt.head? = some pt[0] := by rw [List.head?_eq_getElem?, List.getElem?_eq_getElem hpp]
     refine stop_sidx tabOk rfl rfl rfl rfl ⟨rfl, rfl⟩ (0) rfl z34 ?_
     refine CaseB.mk (fun g5 => ?_) (fun g5 => ?_)
     · have e32 : ¬ pt[0] = 32 := fun h => by rw [h] at g5; simp at g5
       have e := hbad (by rw [hop, hh, if_neg (fun h => e32 (Option.some.inj h))])
       refine AllSl.mk fun l2 => ?_
       exact retw [0] ⟨l2, [], false, rfl, fun _ => e, fun h => z87, rfl⟩ z115 rfl ⟨rfl, trivial⟩ (fun _ => rfl)
     have e32 : pt[0] = 32 := (u8_eq _ 32).1 (by simpa using g5)
     rw [hh, e32, if_pos rfl] at hop
     refine CaseB.mk (fun g6 => ?_) (fun g6 => by rw [g3] at g6; cases g6)
     refine stop_scut tabOk rfl rfl rfl ⟨rfl, rfl⟩ rfl rfl (1) (pt.length) rfl rfl z34 z34 ?_
     have hc1 : (pt.drop 1).take (pt.length - 1) = pt.drop 1 := List.take_of_length_le z70
     rw [hc1]
     have htl : (pt.drop 1).length ≤ 1000 := by simp; omega
     generalize pt.drop 1 = tx at hop htl ⊢
     refine stop_call _ cl172 rfl rfl rfl rfl ⟨rfl, rfl⟩ (fun A w hW => (parseOp_c tx w htl)) ?_
     rintro v L ⟨rfl, rfl⟩
     cases ho : parseOpM tx with
     | none =>
       refine CaseB.mk (fun g7 => ?_) (fun g7 => by simp at g7)
       refine AllSl.mk fun l2 => ?_
       have e := hbad (hop.trans ho)
       exact retw [0] ⟨l2, [], false, rfl, fun _ => e, fun h => z87, rfl⟩ z115 rfl ⟨rfl, trivial⟩ (fun _ => rfl)
     | some o =>
       refine CaseB.mk (fun g7 => by simp at g7) (fun g7 => ?_)
       refine AllSl.mk fun b3 => ?_
       refine stop_app encOp 1 tabOk (xs := ns) (ys := [o]) rfl rfl rfl rfl rfl rfl rfl rfl rfl (by decide) ⟨rfl, rfl⟩ rfl z28 z34 z34 (fun z3 => ?_)
       refine ⟨⟨(i + 1, z3, ns ++ [o]), h8, hlt, i3.trans (behindO_some (hop.trans ho)), by simp; omega⟩, ?_, by simp only; omega⟩
       exact weak_mk [0, 2] zw1 zw0 zw1 zw5 zw3 rfl rfl
   have hi0 : i = 0 := by have := of_decide_eq_false g3; omega
   have hop : opAtM i pt = parseOpM pt := if_pos hi0
   refine CaseB.mk (fun g6 => by rw [g3] at g6; cases g6) (fun g6 => ?_)
   have htl := hpl
   refine stop_call _ cl172 rfl rfl rfl rfl ⟨rfl, rfl⟩ (fun A w hW => (parseOp_c pt w htl)) ?_
   rintro v L ⟨rfl, rfl⟩
   cases ho : parseOpM pt with
   | none =>
     refine CaseB.mk (fun g7 => ?_) (fun g7 => by simp at g7)
     refine AllSl.mk fun l2 => ?_
     have e := hbad (hop.trans ho)
     exact retw [0] ⟨l2, [], false, rfl, fun _ => e, fun h => z87, rfl⟩ z115 rfl ⟨rfl, trivial⟩ (fun _ => rfl)
   | some o =>
     refine CaseB.mk (fun g7 => by simp at g7) (fun g7 => ?_)
     refine AllSl.mk fun b3 => ?_
     refine stop_app encOp 1 tabOk (xs := ns) (ys := [o]) rfl rfl rfl rfl rfl rfl rfl rfl rfl (by decide) ⟨rfl, rfl⟩ rfl z28 z34 z34 (fun z3 => ?_)
     refine ⟨⟨(i + 1, z3, ns ++ [o]), h8, hlt, i3.trans (behindO_some (hop.trans ho)), by simp; omega⟩, ?_, by simp only; omega⟩
     exact weak_mk [0, 2] zw1 zw0 zw1 zw5 zw3 rfl rfl
 have hfin : opsX 0 (ps.take 9) = some ns := by
   rw [i3, show 9 - i = 0 by have := of_decide_eq_false g2; omega, List.take_zero]
   simp [opsX, behindO]
 rotate_left
 have hfin : opsX 0 (ps.take 9) = some ns := by
   rw [i3, List.drop_eq_nil_of_le z68, List.take_nil]
   simp [opsX, behindO]
 rotate_left
 all_goals
   rw [hfin] at hM
   simp only at hM
   by_cases he : ps.length ≤ 8
   · rw [if_pos he] at hM
     exact retw [0] ⟨z, ns, _, rfl, fun h => by have := of_decide_eq_false h; omega, fun _ => hM, rfl⟩ z115 rfl ⟨rfl, trivial⟩ (fun _ => rfl)
   · rw [if_neg he] at hM
     exact retw [0] ⟨z, ns, _, rfl, fun _ => hM, fun h => by have := of_decide_eq_true h; omega, rfl⟩ z115 rfl ⟨rfl, trivial⟩ (fun _ => rfl)
set_option maxHeartbeats 16000000 in
set_option maxRecDepth 100000 in
theorem opValid_c (p : ProgH) (o : Op) (w : World) (h : At w [fR (progO p)]) :
   Calls Tryz.prog 106 #[progV p, .agg (cOp o).toArray] w (Tells w (OpOk p.pure o)) := by
 refine calls2 Tryz.func106 rfl tabOk w _ rfl _ rfl _ h ⟨rfl, rfl, trivial⟩ _ _ (by decide) ?_
 refine CaseB.mk (fun k1 => ?_) (fun k1 => ?_)
 · have hx := opOk1 (p := p.pure) (o := o) (by simpa using k1)
   apply CaseB.mk <;> intro g
   · have g' : o.on = 0 := by simpa using g
     refine stop_call _ cl63 rfl rfl rfl rfl ⟨rfl, rfl⟩ (fun A w hW => isValue_c _ w) ?_
     rintro v L ⟨rfl, rfl⟩
     exact ret0 ⟨_, rfl, by rw [hx]; simp [g'], rfl⟩ (fun _ => rfl)
   · have g' : ¬ o.on = 0 := by simpa using g
     exact ret0 ⟨_, rfl, tno fun e => g' (hx.1 e).1, rfl⟩ (fun _ => rfl)
 refine CaseB.mk (fun k2 => ?_) (fun k2 => ?_)
 · refine CaseB.mk (fun _ => ?_) (fun g => by rw [k2] at g; cases g)
   have hx := opOk2 (p := p.pure) (o := o) (.inl (by simpa using k2))
   refine draw_start tabOk z86 z86 z86 200 [((0, 0), .v (p.h0.val p.sems.length)), ((1, 0), .v (.int .i64 o.kind)), ((1, 1), .v (.int .i64 o.on)), ((1, 2), .v (.int .i64 o.arg))] [0] [_] z95 z106 ⟨rfl, trivial⟩ rfl ?_
   refine d_call _ cl153 rfl rfl rfl rfl ⟨rfl, rfl⟩ (fun A w hW => opOn_c p.h0 p.sems.length o (A 1) w ⟨hW.var rfl rfl, trivial⟩) ?_
   rintro v L ⟨b, rfl, hb, rfl⟩
   refine CaseB.mk (fun g1 => ?_) (fun g1 => ?_)
   · obtain ⟨c1, c2⟩ := hb.1 g1
     have hlt : o.on.toNat < p.sems.length := by omega
     have e : p.pure.sems.getD o.on.toNat 0 = p.sems[o.on.toNat] := by simp [ProgH.pure, List.getD, hlt]
     refine CaseB.mk (fun g2 => ?_) (fun g2 => ?_)
     · have c3 : 1 ≤ o.arg := by simp at g2; omega
       refine d_idx (ti := tiOf tab) encInt tabOk rfl rfl rfl rfl rfl ⟨rfl, rfl⟩ (rdVia 0 rfl (.ofR (progO_sems p))) o.on.toNat (by omega) z34 (fun ad => ?_)
       refine ret0 ⟨_, rfl, ?_, rfl⟩ (fun _ => rfl)
       rw [hx, e]
       show _ ↔ (0 ≤ o.on ∧ o.on < (p.sems.length : Int)) ∧ _
       simp [c1, c2, c3]
     · have c3 : ¬ 1 ≤ o.arg := by simp at g2; omega
       exact ret0 ⟨_, rfl, tno fun e => c3 (hx.1 e).2.1, rfl⟩ (fun _ => rfl)
   · exact ret0 ⟨_, rfl, tno fun e => z67, rfl⟩ (fun _ => rfl)
 refine CaseB.mk (fun k3 => ?_) (fun k3 => ?_)
 · skip
   have hx := opOk2 (p := p.pure) (o := o) (.inr (by simpa using k3))
   refine draw_start tabOk z86 z86 z86 200 [((0, 0), .v (p.h0.val p.sems.length)), ((1, 0), .v (.int .i64 o.kind)), ((1, 1), .v (.int .i64 o.on)), ((1, 2), .v (.int .i64 o.arg))] [0] [_] z95 z106 ⟨rfl, trivial⟩ rfl ?_
   refine d_call _ cl153 rfl rfl rfl rfl ⟨rfl, rfl⟩ (fun A w hW => opOn_c p.h0 p.sems.length o (A 1) w ⟨hW.var rfl rfl, trivial⟩) ?_
   rintro v L ⟨b, rfl, hb, rfl⟩
   refine CaseB.mk (fun g1 => ?_) (fun g1 => ?_)
   · obtain ⟨c1, c2⟩ := hb.1 g1
     have hlt : o.on.toNat < p.sems.length := by omega
     have e : p.pure.sems.getD o.on.toNat 0 = p.sems[o.on.toNat] := by simp [ProgH.pure, List.getD, hlt]
     refine CaseB.mk (fun g2 => ?_) (fun g2 => ?_)
     · have c3 : 1 ≤ o.arg := by simp at g2; omega
       refine d_idx (ti := tiOf tab) encInt tabOk rfl rfl rfl rfl rfl ⟨rfl, rfl⟩ (rdVia 0 rfl (.ofR (progO_sems p))) o.on.toNat (by omega) z34 (fun ad => ?_)
       refine ret0 ⟨_, rfl, ?_, rfl⟩ (fun _ => rfl)
       rw [hx, e]
       show _ ↔ (0 ≤ o.on ∧ o.on < (p.sems.length : Int)) ∧ _
       simp [c1, c2, c3]
     · have c3 : ¬ 1 ≤ o.arg := by simp at g2; omega
       exact ret0 ⟨_, rfl, tno fun e => c3 (hx.1 e).2.1, rfl⟩ (fun _ => rfl)
   · exact ret0 ⟨_, rfl, tno fun e => z67, rfl⟩ (fun _ => rfl)
 refine CaseB.mk (fun k4 => ?_) (fun k4 => ?_)
 · have hx := opOk4 (p := p.pure) (o := o) (by simpa using k4)
   apply CaseB.mk <;> intro g
   · have g1 : 0 ≤ o.on := by simp at g; omega
     apply CaseB.mk <;> intro g
     · have g2 : o.on ≤ 2 := by simp at g; omega
       refine stop_call _ cl63 rfl rfl rfl rfl ⟨rfl, rfl⟩ (fun A w hW => isValue_c _ w) ?_
       rintro v L ⟨rfl, rfl⟩
       exact ret0 ⟨_, rfl, by rw [hx]; simp [g1, g2], rfl⟩ (fun _ => rfl)
     · have g2 : ¬ o.on ≤ 2 := by simp at g; omega
       exact ret0 ⟨_, rfl, tno fun e => g2 (hx.1 e).2.1, rfl⟩ (fun _ => rfl)
   · have g1 : ¬ 0 ≤ o.on := by simp at g; omega
     exact ret0 ⟨_, rfl, tno fun e => g1 (hx.1 e).1, rfl⟩ (fun _ => rfl)
 refine CaseB.mk (fun k5 => ?_) (fun k5 => ?_)
 · skip
   have hx := opOk5 (p := p.pure) (o := o) (by simpa using k5)
   refine stop_call _ cl153 rfl rfl rfl rfl ⟨rfl, rfl⟩ (fun A w hW => opOn_c p.h1 p.groups.length o (A 1) w ⟨hW.var rfl rfl, trivial⟩) ?_
   rintro v L ⟨b, rfl, hb, rfl⟩
   refine CaseB.mk (fun g1 => ?_) (fun g1 => ?_)
   rotate_left
   · exact ret0 ⟨_, rfl, tno fun e => z67, rfl⟩ (fun _ => rfl)
   have c := hb.1 g1
   have c' : 0 ≤ o.on ∧ o.on < (p.pure.groups.length : Int) := c
   refine CaseB.mk (fun g2 => ?_) (fun g2 => ?_)
   · have c3 : -9 ≤ o.arg := by simp at g2; omega
     exact ret0 ⟨_, rfl, by rw [hx]; simp only [c', c3, true_and, and_self]; simp, rfl⟩ (fun _ => rfl)
   · have c3 : ¬ -9 ≤ o.arg := by simp at g2; omega
     exact ret0 ⟨_, rfl, tno fun e => c3 (hx.1 e).2.1, rfl⟩ (fun _ => rfl)
 refine CaseB.mk (fun k6 => ?_) (fun k6 => ?_)
 · skip
   have hx := opOk6 (p := p.pure) (o := o) (by simpa using k6)
   refine stop_call _ cl153 rfl rfl rfl rfl ⟨rfl, rfl⟩ (fun A w hW => opOn_c p.h1 p.groups.length o (A 1) w ⟨hW.var rfl rfl, trivial⟩) ?_
   rintro v L ⟨b, rfl, hb, rfl⟩
   refine CaseB.mk (fun g1 => ?_) (fun g1 => ?_)
   rotate_left
   · exact ret0 ⟨_, rfl, tno fun e => z67, rfl⟩ (fun _ => rfl)
   have c := hb.1 g1
   have c' : 0 ≤ o.on ∧ o.on < (p.pure.groups.length : Int) := c
   exact ret0 ⟨_, rfl, by rw [hx]; simp only [c', true_and, and_self]; simp, rfl⟩ (fun _ => rfl)
 refine CaseB.mk (fun k7 => ?_) (fun k7 => ?_)
 · skip
   have hx := opOk7 (p := p.pure) (o := o) (by simpa using k7)
   refine stop_call _ cl153 rfl rfl rfl rfl ⟨rfl, rfl⟩ (fun A w hW => opOn_c p.h2 p.barriers.length o (A 1) w ⟨hW.var rfl rfl, trivial⟩) ?_
   rintro v L ⟨b, rfl, hb, rfl⟩
   refine CaseB.mk (fun g1 => ?_) (fun g1 => ?_)
   rotate_left
   · exact ret0 ⟨_, rfl, tno fun e => z67, rfl⟩ (fun _ => rfl)
   have c := hb.1 g1
   have c' : 0 ≤ o.on ∧ o.on < (p.pure.barriers.length : Int) := c
   exact ret0 ⟨_, rfl, by rw [hx]; simp only [c', true_and, and_self]; simp, rfl⟩ (fun _ => rfl)
 refine CaseB.mk (fun k8 => ?_) (fun k8 => ?_)
 · skip
   have hx := opOk8 (p := p.pure) (o := o) (by simpa using k8)
   refine stop_call _ cl153 rfl rfl rfl rfl ⟨rfl, rfl⟩ (fun A w hW => opOn_c p.h3 p.rooms.length o (A 1) w ⟨hW.var rfl rfl, trivial⟩) ?_
   rintro v L ⟨b, rfl, hb, rfl⟩
   refine CaseB.mk (fun g1 => ?_) (fun g1 => ?_)
   rotate_left
   · exact ret0 ⟨_, rfl, tno fun e => z67, rfl⟩ (fun _ => rfl)
   have c := hb.1 g1
   have c' : 0 ≤ o.on ∧ o.on < (p.pure.rooms.length : Int) := c
   refine stop_call _ cl63 rfl rfl rfl rfl ⟨rfl, rfl⟩ (fun A w hW => isValue_c _ w) ?_
   rintro v L ⟨rfl, rfl⟩
   exact ret0 ⟨_, rfl, by rw [hx]; simp only [c', true_and, and_self], rfl⟩ (fun _ => rfl)
 refine CaseB.mk (fun k9 => ?_) (fun k9 => ?_)
 · refine CaseB.mk (fun _ => ?_) (fun g => by rw [k9] at g; cases g)
   have hx := opOk9 (p := p.pure) (o := o) (.inl (by simpa using k9))
   refine stop_call _ cl153 rfl rfl rfl rfl ⟨rfl, rfl⟩ (fun A w hW => opOn_c p.h3 p.rooms.length o (A 1) w ⟨hW.var rfl rfl, trivial⟩) ?_
   rintro v L ⟨b, rfl, hb, rfl⟩
   refine CaseB.mk (fun g1 => ?_) (fun g1 => ?_)
   rotate_left
   · exact ret0 ⟨_, rfl, tno fun e => z67, rfl⟩ (fun _ => rfl)
   have c := hb.1 g1
   have c' : 0 ≤ o.on ∧ o.on < (p.pure.rooms.length : Int) := c
   exact ret0 ⟨_, rfl, by rw [hx]; simp only [c', true_and, and_self]; simp, rfl⟩ (fun _ => rfl)
 refine CaseB.mk (fun k10 => ?_) (fun k10 => ?_)
 · skip
   have hx := opOk9 (p := p.pure) (o := o) (.inr (by simpa using k10))
   refine stop_call _ cl153 rfl rfl rfl rfl ⟨rfl, rfl⟩ (fun A w hW => opOn_c p.h3 p.rooms.length o (A 1) w ⟨hW.var rfl rfl, trivial⟩) ?_
   rintro v L ⟨b, rfl, hb, rfl⟩
   refine CaseB.mk (fun g1 => ?_) (fun g1 => ?_)
   rotate_left
   · exact ret0 ⟨_, rfl, tno fun e => z67, rfl⟩ (fun _ => rfl)
   have c := hb.1 g1
   have c' : 0 ≤ o.on ∧ o.on < (p.pure.rooms.length : Int) := c
   exact ret0 ⟨_, rfl, by rw [hx]; simp only [c', true_and, and_self]; simp, rfl⟩ (fun _ => rfl)
 have hno : ¬ OpOk p.pure o := opOk0 (by simp at k1 k2 k3 k4 k5 k6 k7 k8 k9 k10; omega)
 exact ret0 ⟨_, rfl, tno hno, rfl⟩ (fun _ => rfl)
def l6Words : List ByteArray := [⟨#[]⟩, ⟨#[115, 97, 121]⟩, ⟨#[97, 99, 113, 117, 105, 114, 101]⟩, ⟨#[114, 101, 108, 101, 97, 115, 101]⟩, ⟨#[111, 110, 99, 101]⟩, ⟨#[97, 100, 100]⟩, ⟨#[119, 97, 105, 116]⟩, ⟨#[97, 114, 114, 105, 118, 101]⟩, ⟨#[115, 101, 110, 100]⟩, ⟨#[103, 101, 116]⟩, ⟨#[99, 108, 111, 115, 101]⟩]
def cStr (b : ByteArray) : List Value := [.string b]
theorem encStr : Enc cStr 1 := ⟨fun _ => rfl, fun _ u hu => by simp [cStr] at hu; subst hu; rfl⟩
def wordOf (k : Int) : ByteArray := if 1 ≤ k ∧ k ≤ 10 then l6Words.getD k.toNat ⟨#[]⟩ else ⟨#[]⟩
theorem wordOf_empty (k : Int) : ((wordOf k).toList == (⟨#[]⟩ : ByteArray).toList) = true ↔ ¬ (1 ≤ k ∧ k ≤ 10) := by
 unfold wordOf
 by_cases h : 1 ≤ k ∧ k ≤ 10
 · rw [if_pos h]
   have : k = 1 ∨ k = 2 ∨ k = 3 ∨ k = 4 ∨ k = 5 ∨ k = 6 ∨ k = 7 ∨ k = 8 ∨ k = 9 ∨ k = 10 := by omega
   simp only [h, and_self, not_true_eq_false, iff_false]
   rw [← beq_toListBytes]
   rcases this with rfl | rfl | rfl | rfl | rfl | rfl | rfl | rfl | rfl | rfl <;> decide
 · rw [if_neg h]
   simp [h]
set_option maxHeartbeats 4000000 in
set_option maxRecDepth 100000 in
theorem l6Word_c (k : Int) (w : World) : Calls Tryz.prog 154 #[.int .i64 k] w (Ret w fun v L => v = .string (wordOf k) ∧ L = []) := by
 refine calls1 Tryz.func154 rfl tabOk w _ rfl _ rfl [] trivial trivial _ (by decide) ?_
 refine AllSl.mk fun y => ?_
 apply CaseB.mk <;> intro g
 · have q : ¬ (1 ≤ k ∧ k ≤ 10) := by simp at g; omega
   exact ret0 ⟨by rw [wordOf, if_neg q], rfl⟩ (fun _ => rfl)
 refine CaseB.mk (fun g2 => ?_) (fun g2 => ?_)
 · have q : ¬ (1 ≤ k ∧ k ≤ 10) := by simp at g2; omega
   exact ret0 ⟨by rw [wordOf, if_neg q], rfl⟩ (fun _ => rfl)
 have q : 1 ≤ k ∧ k ≤ 10 := by simp at g g2; omega
 have hlt : k.toNat < l6Words.length := by show k.toNat < 11; omega
 refine stop_idx encStr (xs := l6Words) tabOk rfl rfl rfl rfl rfl ⟨rfl, rfl⟩ (rdOwnAt 0 rfl) k.toNat (by omega) hlt (fun ad => ?_)
 exact ret0 ⟨by rw [wordOf, if_pos q]; simp [List.getD, hlt], rfl⟩ (fun _ => rfl)
set_option maxRecDepth 100000 in
theorem l6Numbers_c (i : Sl) (xs : List Int) (lo hi : Int) (w : World) (h : At w [slo i cInt 1 xs]) (hb : xs.length ≤ 4294967296) :
   Calls Tryz.prog 111 #[i.val xs.length, .int .i64 lo, .int .i64 hi] w (Tells w (within xs lo hi)) := by
 refine calls3 Tryz.func111 rfl tabOk w _ rfl _ rfl _ h ⟨rfl, rfl, trivial⟩ _ _ _ (by decide) ?_
 refine LoopW.mk ⟨{ k : Nat // k ≤ xs.length ∧ k ≤ 4 ∧ ∀ x ∈ xs.take k, lo ≤ x ∧ x ≤ hi },
   fun k => .mk [(0, .v (i.val xs.length)), (1, .v (.int .i64 lo)), (2, .v (.int .i64 hi)), (7, .v (.int .i64 (k.1 : Int)))] 0 0 [] [] [slo i cInt 1 xs],
   fun k => xs.length - k.1, ⟨0, Nat.zero_le _, by omega, by simp⟩, ?_, ?_⟩
 · exact weak_mk [0] zw2 zw0 zw2 zw5 zw4 rfl rfl
 rintro ⟨k, hk, h4, hinv⟩
 apply CaseB.mk <;> intro g
 · have hlt : k < xs.length := by simpa using g
   apply CaseB.mk <;> intro g
   · have h3 : k ≤ 3 := by simp at g; omega
     refine stop_idx encInt tabOk rfl rfl rfl rfl rfl ⟨rfl, rfl⟩ z28 k rfl z34 (fun ad => ?_)
     apply CaseB.mk <;> intro g
     · have q : xs[k] < lo := by simpa using g
       exact ret0 ⟨_, rfl, tno fun e => by have := (e.2 _ (List.getElem_mem hlt)).1; omega, rfl⟩ (fun _ => rfl)
     have q1 : ¬ xs[k] < lo := by simpa using g
     refine stop_idx encInt tabOk rfl rfl rfl rfl rfl ⟨rfl, rfl⟩ z28 k rfl z34 (fun ad2 => ?_)
     apply CaseB.mk <;> intro g
     · have q : hi < xs[k] := by simpa using g
       exact ret0 ⟨_, rfl, tno fun e => by have := (e.2 _ (List.getElem_mem hlt)).2; omega, rfl⟩ (fun _ => rfl)
     have q2 : ¬ hi < xs[k] := by simpa using g
     have hw := e_succ k _ hlt (by omega)
     refine ⟨⟨k + 1, by omega, by omega, fun x hx => ?_⟩, ?_, by simp; omega⟩
     · rw [List.take_succ_eq_append_getElem hlt] at hx
       rcases List.mem_append.1 hx with hx | hx
       · exact hinv x hx
       · simp at hx; subst hx; omega
     · exact weak_mk [0] zw1 zw0 zw1 zw5 zw3 rfl rfl
   · have h3 : ¬ k ≤ 3 := by simp at g; omega
     have : ¬ xs.length ≤ 3 := by omega
     exact ret0 ⟨_, rfl, by simp [within]; omega, rfl⟩ (fun _ => rfl)
 · have hge : xs.length ≤ k := by simpa using g
   rw [List.take_of_length_le hge] at hinv
   refine ret0 ⟨_, rfl, ?_, rfl⟩ (fun _ => rfl)
   simp only [within, decide_eq_true_eq]
   exact ⟨fun e => ⟨by omega, hinv⟩, fun e => by have := e.1; omega⟩
set_option maxRecDepth 100000 in
theorem l6Shared_c (p : ProgH) (k : Int) (w : World) : Calls Tryz.prog 155 #[progV p, .int .i64 k] w (Ret w fun v L => v = .int .i64 (p.pure.shared k) ∧ L = []) := by
 have t : p.pure.sems = p.sems ∧ p.pure.groups = p.groups ∧ p.pure.barriers = p.barriers ∧ p.pure.rooms = p.rooms := ⟨rfl, rfl, rfl, rfl⟩
 refine calls2 Tryz.func155 rfl tabOk w _ rfl _ rfl [] trivial trivial _ _ (by decide) ?_
 refine CaseB.mk (fun k1 => ?_) (fun k1 => ?_)
 · have q1 : k = 1 := by simpa using k1
   exact ret0 ⟨by simp [Prog.shared, q1], rfl⟩ (fun _ => rfl)
 have q1 : ¬ k = 1 := by simpa using k1
 refine CaseB.mk (fun k2 => ?_) (fun k2 => ?_)
 · have q2 : k = 2 := by simpa using k2
   refine CaseB.mk (fun _ => ?_) (fun g => by rw [k2] at g; cases g)
   exact ret0 ⟨by simp [Prog.shared, t, q2], rfl⟩ (fun _ => rfl)
 have q2 : ¬ k = 2 := by simpa using k2
 refine CaseB.mk (fun k3 => ?_) (fun k3 => ?_)
 · have q3 : k = 3 := by simpa using k3
   exact ret0 ⟨by simp [Prog.shared, t, q3], rfl⟩ (fun _ => rfl)
 have q3 : ¬ k = 3 := by simpa using k3
 refine CaseB.mk (fun k4 => ?_) (fun k4 => ?_)
 · have q4 : k = 4 := by simpa using k4
   exact ret0 ⟨by simp [Prog.shared, q4], rfl⟩ (fun _ => rfl)
 have q4 : ¬ k = 4 := by simpa using k4
 refine CaseB.mk (fun k5 => ?_) (fun k5 => ?_)
 · have q5 : k = 5 := by simpa using k5
   refine CaseB.mk (fun _ => ?_) (fun g => by rw [k5] at g; cases g)
   exact ret0 ⟨by simp [Prog.shared, t, q5], rfl⟩ (fun _ => rfl)
 have q5 : ¬ k = 5 := by simpa using k5
 refine CaseB.mk (fun k6 => ?_) (fun k6 => ?_)
 · have q6 : k = 6 := by simpa using k6
   exact ret0 ⟨by simp [Prog.shared, t, q6], rfl⟩ (fun _ => rfl)
 have q6 : ¬ k = 6 := by simpa using k6
 refine CaseB.mk (fun k7 => ?_) (fun k7 => ?_)
 · have q7 : k = 7 := by simpa using k7
   exact ret0 ⟨by simp [Prog.shared, t, q7], rfl⟩ (fun _ => rfl)
 have q7 : ¬ k = 7 := by simpa using k7
 exact ret0 ⟨by simp [Prog.shared, t, q1, q2, q3, q4, q5, q6, q7], rfl⟩ (fun _ => rfl)
set_option maxRecDepth 100000 in
theorem l6Arg_c (p : ProgH) (o : Op) (w : World) (h : At w [fR (progO p)]) (h0 : 0 ≤ o.on) (h1 : o.on < p.pure.shared o.kind) :
   Calls Tryz.prog 156 #[progV p, .agg (cOp o).toArray] w (Tells w (p.pure.argOk o)) := by
 refine calls2 Tryz.func156 rfl tabOk w _ rfl _ rfl _ h ⟨rfl, rfl, trivial⟩ _ _ (by decide) ?_
 refine CaseB.mk (fun k2 => ?_) (fun k2 => ?_)
 · refine CaseB.mk (fun _ => ?_) (fun g => by rw [k2] at g; cases g)
   have q : o.kind = 2 := by simpa using k2
   have hs : o.on < (p.sems.length : Int) := by simpa [Prog.shared, q, ProgH.pure] using h1
   have hlt : o.on.toNat < p.sems.length := by omega
   have e : p.pure.sems.getD o.on.toNat 0 = p.sems[o.on.toNat] := by simp [ProgH.pure, List.getD, hlt]
   have hx : p.pure.argOk o ↔ 1 ≤ o.arg ∧ o.arg ≤ p.sems[o.on.toNat] := by rw [← e]; simp [Prog.argOk, q]
   refine draw_start tabOk z86 z86 z86 200 [((0, 0), .v (p.h0.val p.sems.length)), ((1, 0), .v (.int .i64 o.kind)), ((1, 1), .v (.int .i64 o.on)), ((1, 2), .v (.int .i64 o.arg))] [0] [_] z95 z106 ⟨rfl, trivial⟩ rfl ?_
   apply CaseB.mk <;> intro g
   · have c : 1 ≤ o.arg := by simp at g; omega
     refine d_idx (ti := tiOf tab) encInt tabOk rfl rfl rfl rfl rfl ⟨rfl, rfl⟩ (rdVia 0 rfl (.ofR (progO_sems p))) o.on.toNat (by omega) z34 (fun ad => ?_)
     exact ret0 ⟨_, rfl, by rw [hx]; simp [c], rfl⟩ (fun _ => rfl)
   · have c : ¬ 1 ≤ o.arg := by simp at g; omega
     exact ret0 ⟨_, rfl, tno fun e => c (hx.1 e).1, rfl⟩ (fun _ => rfl)
 refine CaseB.mk (fun k3 => ?_) (fun k3 => ?_)
 · skip
   have q : o.kind = 3 := by simpa using k3
   have hs : o.on < (p.sems.length : Int) := by simpa [Prog.shared, q, ProgH.pure] using h1
   have hlt : o.on.toNat < p.sems.length := by omega
   have e : p.pure.sems.getD o.on.toNat 0 = p.sems[o.on.toNat] := by simp [ProgH.pure, List.getD, hlt]
   have hx : p.pure.argOk o ↔ 1 ≤ o.arg ∧ o.arg ≤ p.sems[o.on.toNat] := by rw [← e]; simp [Prog.argOk, q]
   refine draw_start tabOk z86 z86 z86 200 [((0, 0), .v (p.h0.val p.sems.length)), ((1, 0), .v (.int .i64 o.kind)), ((1, 1), .v (.int .i64 o.on)), ((1, 2), .v (.int .i64 o.arg))] [0] [_] z95 z106 ⟨rfl, trivial⟩ rfl ?_
   apply CaseB.mk <;> intro g
   · have c : 1 ≤ o.arg := by simp at g; omega
     refine d_idx (ti := tiOf tab) encInt tabOk rfl rfl rfl rfl rfl ⟨rfl, rfl⟩ (rdVia 0 rfl (.ofR (progO_sems p))) o.on.toNat (by omega) z34 (fun ad => ?_)
     exact ret0 ⟨_, rfl, by rw [hx]; simp [c], rfl⟩ (fun _ => rfl)
   · have c : ¬ 1 ≤ o.arg := by simp at g; omega
     exact ret0 ⟨_, rfl, tno fun e => c (hx.1 e).1, rfl⟩ (fun _ => rfl)
 have n2 : ¬ o.kind = 2 := by simpa using k2
 have n3 : ¬ o.kind = 3 := by simpa using k3
 refine CaseB.mk (fun k5 => ?_) (fun k5 => ?_)
 · have q : o.kind = 5 := by simpa using k5
   have hx : p.pure.argOk o ↔ -9 ≤ o.arg ∧ o.arg ≤ 9 := by simp [Prog.argOk, q]
   apply CaseB.mk <;> intro g
   · have c : -9 ≤ o.arg := by simp at g; omega
     exact ret0 ⟨_, rfl, by rw [hx]; simp [c], rfl⟩ (fun _ => rfl)
   · have c : ¬ -9 ≤ o.arg := by simp at g; omega
     exact ret0 ⟨_, rfl, tno fun e => c (hx.1 e).1, rfl⟩ (fun _ => rfl)
 have n5 : ¬ o.kind = 5 := by simpa using k5
 refine CaseB.mk (fun k1 => ?_) (fun k1 => ?_)
 · have q : o.kind = 1 := by simpa using k1
   have hx : p.pure.argOk o ↔ isValue o.arg = true := by simp [Prog.argOk, q]
   refine CaseB.mk (fun _ => ?_) (fun g => by rw [k1] at g; cases g)
   refine stop_call _ cl67 rfl rfl rfl rfl ⟨rfl, rfl⟩ (fun A w hW => l2Value_c _ w) ?_
   rintro v L ⟨rfl, rfl⟩
   exact ret0 ⟨_, rfl, by rw [hx], rfl⟩ (fun _ => rfl)
 have n1 : ¬ o.kind = 1 := by simpa using k1
 refine CaseB.mk (fun k4 => ?_) (fun k4 => ?_)
 · have q : o.kind = 4 := by simpa using k4
   have hx : p.pure.argOk o ↔ isValue o.arg = true := by simp [Prog.argOk, q]
   refine CaseB.mk (fun _ => ?_) (fun g => by rw [k4] at g; cases g)
   refine stop_call _ cl67 rfl rfl rfl rfl ⟨rfl, rfl⟩ (fun A w hW => l2Value_c _ w) ?_
   rintro v L ⟨rfl, rfl⟩
   exact ret0 ⟨_, rfl, by rw [hx], rfl⟩ (fun _ => rfl)
 have n4 : ¬ o.kind = 4 := by simpa using k4
 refine CaseB.mk (fun k8 => ?_) (fun k8 => ?_)
 · have q : o.kind = 8 := by simpa using k8
   have hx : p.pure.argOk o ↔ isValue o.arg = true := by simp [Prog.argOk, q]
   refine stop_call _ cl67 rfl rfl rfl rfl ⟨rfl, rfl⟩ (fun A w hW => l2Value_c _ w) ?_
   rintro v L ⟨rfl, rfl⟩
   exact ret0 ⟨_, rfl, by rw [hx], rfl⟩ (fun _ => rfl)
 have n8 : ¬ o.kind = 8 := by simpa using k8
 have hx : p.pure.argOk o ↔ o.arg = 0 := by simp [Prog.argOk, n1, n2, n3, n4, n5, n8]
 exact ret0 ⟨_, rfl, by rw [hx]; simp, rfl⟩ (fun _ => rfl)
set_option maxHeartbeats 4000000 in
set_option maxRecDepth 100000 in
theorem opValidS_c (p : ProgH) (o : Op) (w : World) (h : At w [fR (progO p)]) :
   Calls Tryz.prog 112 #[progV p, .agg (cOp o).toArray] w (Tells w (OpOk p.pure o)) := by
 refine calls2 Tryz.func112 rfl tabOk w _ rfl _ rfl _ h ⟨rfl, rfl, trivial⟩ _ _ (by decide) ?_
 refine draw_start tabOk z86 z86 z86 200 [((0, 0), .v (p.h0.val p.sems.length)), ((0, 1), .v (p.h1.val p.groups.length)), ((0, 2), .v (p.h2.val p.barriers.length)), ((0, 3), .v (p.h3.val p.rooms.length)), ((0, 4), .v (p.h4.val p.threads.length)), ((1, 0), .v (.int .i64 o.kind)), ((1, 1), .v (.int .i64 o.on)), ((1, 2), .v (.int .i64 o.arg))] [0] [_] ⟨⟨_, rfl, rfl, z61⟩, ⟨_, rfl, rfl, z61⟩, ⟨_, rfl, rfl, z61⟩, ⟨_, rfl, rfl, z61⟩, ⟨_, rfl, rfl, z61⟩, ⟨_, rfl, rfl, z61⟩, ⟨_, rfl, rfl, z61⟩, ⟨_, rfl, rfl, z61⟩, trivial⟩ ⟨⟨_, rfl⟩, ⟨_, rfl⟩, ⟨_, rfl⟩, ⟨_, rfl⟩, ⟨_, rfl⟩, ⟨_, rfl⟩, ⟨_, rfl⟩, ⟨_, rfl⟩, trivial⟩ ⟨rfl, trivial⟩ rfl ?_
 refine d_call _ cl154 rfl rfl rfl rfl ⟨rfl, rfl⟩ (fun A w hW => l6Word_c _ w) ?_
 rintro v L ⟨rfl, rfl⟩
 refine d_bin rfl rfl rfl ⟨rfl, rfl⟩ (.bool ((wordOf o.kind).toList == (⟨#[]⟩ : ByteArray).toList)) (fun w => (eqGuard_str w)) (fun w => (eql_str w)) ?_
 apply CaseB.mk <;> intro g
 · have q := (wordOf_empty o.kind).1 g
   exact ret0 ⟨_, rfl, tno fun e => q ⟨e.1, e.2.1⟩, rfl⟩ (fun _ => rfl)
 have q : 1 ≤ o.kind ∧ o.kind ≤ 10 := by
   refine Classical.byContradiction fun n => ?_
   rw [(wordOf_empty o.kind).2 n] at g
   cases g
 apply CaseB.mk <;> intro g
 · have c : ¬ 0 ≤ o.on := by simp at g; omega
   exact ret0 ⟨_, rfl, tno fun e => c e.2.2.1, rfl⟩ (fun _ => rfl)
 have c0 : 0 ≤ o.on := by simp at g; omega
 refine d_call _ cl155 rfl rfl rfl rfl ⟨rfl, rfl⟩ (fun A w hW => l6Shared_c p _ w) ?_
 rintro v L ⟨rfl, rfl⟩
 apply CaseB.mk <;> intro g
 · have c : ¬ o.on < p.pure.shared o.kind := by simp at g; omega
   exact ret0 ⟨_, rfl, tno fun e => c e.2.2.2.1, rfl⟩ (fun _ => rfl)
 have c1 : o.on < p.pure.shared o.kind := by simp at g; omega
 refine stop_call _ cl156 rfl rfl rfl rfl ⟨rfl, rfl⟩ (fun A w hW => l6Arg_c p o w ⟨hW.get 0 rfl (.refl _), trivial⟩ c0 c1) ?_
 rintro v L ⟨b, rfl, hb, rfl⟩
 exact ret0 ⟨_, rfl, by rw [hb]; simp [OpOk, q, c0, c1], rfl⟩ (fun _ => rfl)
set_option maxHeartbeats 16000000 in
set_option maxRecDepth 100000 in
theorem progValidS_c (p : ProgH) (w : World) (h : At w [fR (progO p)]) (hs : p.sems.length ≤ 1048576 ∧ p.groups.length ≤ 1048576 ∧ p.barriers.length ≤ 1048576 ∧ p.rooms.length ≤ 1048576) :
   Calls Tryz.prog 65 #[progV p] w (Tells w (ProgOk p.pure)) := by
 refine calls1 Tryz.func65 rfl tabOk w _ rfl _ rfl _ h ⟨rfl, rfl, trivial⟩ _ (by decide) ?_
 refine stop_call _ cl111 rfl rfl rfl rfl ⟨rfl, rfl⟩ (fun A w hW => l6Numbers_c p.h0 p.sems 1 9 w ⟨hW.get 0 rfl (.ofR (progO_sems p)), trivial⟩ (by omega)) ?_
 rintro v L ⟨b0, rfl, hb0, rfl⟩
 apply CaseB.mk <;> intro g
 · exact ret0 ⟨_, rfl, tno fun e => (by have := hb0.2 e.sems; rw [this] at g; cases g), rfl⟩ (fun _ => rfl)
 have w0 := hb0.1 z82
 refine stop_call _ cl111 rfl rfl rfl rfl ⟨rfl, rfl⟩ (fun A w hW => l6Numbers_c p.h1 p.groups 0 9 w ⟨hW.get 0 rfl (.ofR (progO_groups p)), trivial⟩ (by omega)) ?_
 rintro v L ⟨b1, rfl, hb1, rfl⟩
 apply CaseB.mk <;> intro g
 · exact ret0 ⟨_, rfl, tno fun e => (by have := hb1.2 e.groups; rw [this] at g; cases g), rfl⟩ (fun _ => rfl)
 have w1 := hb1.1 z82
 refine stop_call _ cl111 rfl rfl rfl rfl ⟨rfl, rfl⟩ (fun A w hW => l6Numbers_c p.h2 p.barriers 1 6 w ⟨hW.get 0 rfl (.ofR (progO_barriers p)), trivial⟩ (by omega)) ?_
 rintro v L ⟨b2, rfl, hb2, rfl⟩
 apply CaseB.mk <;> intro g
 · exact ret0 ⟨_, rfl, tno fun e => (by have := hb2.2 e.barriers; rw [this] at g; cases g), rfl⟩ (fun _ => rfl)
 have w2 := hb2.1 z82
 refine stop_call _ cl111 rfl rfl rfl rfl ⟨rfl, rfl⟩ (fun A w hW => l6Numbers_c p.h3 p.rooms 0 4 w ⟨hW.get 0 rfl (.ofR (progO_rooms p)), trivial⟩ (by omega)) ?_
 rintro v L ⟨b3, rfl, hb3, rfl⟩
 apply CaseB.mk <;> intro g
 · exact ret0 ⟨_, rfl, tno fun e => (by have := hb3.2 e.rooms; rw [this] at g; cases g), rfl⟩ (fun _ => rfl)
 have w3 := hb3.1 z82
 have hlen : p.pure.threads.length = p.threads.length := by simp [ProgH.pure]
 apply CaseB.mk <;> intro g
 · have q : ¬ 1 ≤ p.threads.length := by have g' := of_decide_eq_true g; omega
   exact ret0 ⟨_, rfl, tno fun e => q (hlen ▸ e.n1), rfl⟩ (fun _ => rfl)
 have n1 : 1 ≤ p.threads.length := by have g' := of_decide_eq_false g; omega
 apply CaseB.mk <;> intro g
 · have q : ¬ p.threads.length ≤ 4 := by simp at g; omega
   exact ret0 ⟨_, rfl, tno fun e => q (hlen ▸ e.n4), rfl⟩ (fun _ => rfl)
 have n4 : p.threads.length ≤ 4 := by simp at g; omega
 have hmem : ∀ (k : Nat) (hk : k < p.threads.length), (p.threads[k]).m ∈ p.pure.threads := fun k hk => List.mem_map_of_mem (List.getElem_mem hk)
 refine LoopW.mk ⟨{ k : Nat // k ≤ p.threads.length ∧ ∀ t ∈ p.pure.threads.take k, t.length ≤ 8 ∧ ∀ o ∈ t, OpOk p.pure o },
   fun k => .mk [(1, .p 0 0), (3, .v (.int .i64 (k.1 : Int)))] 1 0 [(0, 37, 5)] [((0, 0), .v (p.h0.val p.sems.length)), ((0, 1), .v (p.h1.val p.groups.length)), ((0, 2), .v (p.h2.val p.barriers.length)), ((0, 3), .v (p.h3.val p.rooms.length)), ((0, 4), .v (p.h4.val p.threads.length))] [fR (progO p)],
   fun k => p.threads.length - k.1, ⟨0, Nat.zero_le _, by simp⟩, ?_, ?_⟩
 · exact weak_mk [0] zw2 zw0 zw2 zw5 zw4 rfl rfl
 rintro ⟨k, hk, hinv⟩
 apply CaseB.mk <;> intro g
 · have hlt : k < p.threads.length := by simpa using g
   have hget : p.pure.threads[k]'(by rw [hlen]; exact hlt) = (p.threads[k]).m := by simp [ProgH.pure]
   refine LoopW.mk ⟨{ j : Nat // j ≤ (p.threads[k]).m.length ∧ j ≤ 9 ∧ ∀ o ∈ (p.threads[k]).m.take j, OpOk p.pure o },
     fun j => .mk [(1, .p 0 0), (3, .v (.int .i64 (k : Int))), (4, .v (.int .i64 (j.1 : Int)))] 1 0 [(0, 37, 5)] [((0, 0), .v (p.h0.val p.sems.length)), ((0, 1), .v (p.h1.val p.groups.length)), ((0, 2), .v (p.h2.val p.barriers.length)), ((0, 3), .v (p.h3.val p.rooms.length)), ((0, 4), .v (p.h4.val p.threads.length))] [fR (progO p)],
     fun j => (p.threads[k]).m.length - j.1, ⟨0, Nat.zero_le _, by omega, by simp⟩, ?_, ?_⟩
   · exact weak_mk [0] zw2 zw0 zw2 zw5 zw4 rfl rfl
   rintro ⟨j, hj, h9, hinv2⟩
   refine stop_idx encOpSH tabOk rfl rfl rfl rfl rfl ⟨rfl, rfl⟩ (rdVia 0 rfl (.trans (.R_R (progO_threads p)) (.ofR nest_h))) k rfl z34 (fun ad => ?_)
   have hend : ((p.threads[k]).m.length ≤ 8 → (p.threads[k]).m.length ≤ j) → (p.threads[k]).m.length ≤ 8 → ∀ t ∈ p.pure.threads.take (k + 1), t.length ≤ 8 ∧ ∀ o ∈ t, OpOk p.pure o := fun hge2 n8 t ht => by
     rw [List.take_succ_eq_append_getElem (by rw [hlen]; exact hlt)] at ht
     rcases List.mem_append.1 ht with ht | ht
     · exact hinv t ht
     · simp only [List.mem_singleton] at ht
       rw [hget] at ht
       subst ht
       exact ⟨n8, by rw [List.take_of_length_le (hge2 n8)] at hinv2; exact hinv2⟩
   have hw := e_succ k _ hlt (by omega)
   apply CaseB.mk <;> intro g
   · have hlj : j < (p.threads[k]).m.length := by simpa using g
     apply CaseB.mk <;> intro g
     · have h8 : j ≤ 8 := by simp at g; omega
       refine draw_start tabOk z86 z86 z86 200 [((0, 0), .v (p.h0.val p.sems.length)), ((0, 1), .v (p.h1.val p.groups.length)), ((0, 2), .v (p.h2.val p.barriers.length)), ((0, 3), .v (p.h3.val p.rooms.length)), ((0, 4), .v (p.h4.val p.threads.length))] [0] [_] z92 z103 ⟨rfl, trivial⟩ rfl ?_
       refine d_idx (ti := tiOf tab) encOpSH tabOk rfl rfl rfl rfl rfl ⟨rfl, rfl⟩ (rdVia 0 rfl (.trans (.R_R (progO_threads p)) (.ofR nest_h))) k rfl z34 (fun ad3 => ?_)
       refine d_idx (ti := tiOf tab) encOp tabOk rfl rfl rfl rfl rfl ⟨rfl, rfl⟩ (rdVia 0 rfl (.trans (.R_R (progO_threads p)) (.ofR (threadsO_0 _ _ k hlt)))) j rfl z34 (fun ad2 => ?_)
       refine d_call _ cl112 rfl rfl rfl rfl ⟨rfl, rfl⟩ (fun A w hW => opValidS_c p _ w ⟨hW.get 0 rfl (.refl _), trivial⟩) ?_
       rintro v L ⟨b, rfl, hb, rfl⟩
       apply CaseB.mk <;> intro g
       · exact ret0 ⟨_, rfl, tno fun e => z43, rfl⟩ (fun _ => rfl)
       have hw := e_succ j 9 (by omega) (by omega)
       refine ⟨⟨j + 1, by omega, by omega, fun o ho => ?_⟩, ?_, by simp; omega⟩
       · rw [List.take_succ_eq_append_getElem hlj] at ho
         rcases List.mem_append.1 ho with ho | ho
         · exact hinv2 o ho
         · simp at ho; subst ho; exact hb.1 z82
       · exact weak_mk [0] zw1 zw0 zw1 zw5 zw3 rfl rfl
     · have h8 : ¬ j ≤ 8 := by simp at g; omega
       refine stop_idx encOpSH tabOk rfl rfl rfl rfl rfl ⟨rfl, rfl⟩ (rdVia 0 rfl (.trans (.R_R (progO_threads p)) (.ofR nest_h))) k rfl z34 (fun ad4 => ?_)
       refine CaseB.mk (fun g => ?_) (fun g => by simp at g; omega)
       have q : ¬ (p.threads[k]).m.length ≤ 8 := by omega
       exact ret0 ⟨_, rfl, tno fun e => q (e.ops _ (hmem k hlt)).1, rfl⟩ (fun _ => rfl)
   have hge2 : (p.threads[k]).m.length ≤ j := by simpa using g
   refine stop_idx encOpSH tabOk rfl rfl rfl rfl rfl ⟨rfl, rfl⟩ (rdVia 0 rfl (.trans (.R_R (progO_threads p)) (.ofR nest_h))) k rfl z34 (fun ad4 => ?_)
   apply CaseB.mk <;> intro g
   · have q : ¬ (p.threads[k]).m.length ≤ 8 := by simp at g; omega
     exact ret0 ⟨_, rfl, tno fun e => q (e.ops _ (hmem k hlt)).1, rfl⟩ (fun _ => rfl)
   have n8 : (p.threads[k]).m.length ≤ 8 := by simp at g; omega
   refine ⟨⟨k + 1, by omega, hend (fun _ => hge2) n8⟩, ?_, by simp; omega⟩
   exact weak_mk [0] zw1 zw0 zw1 zw5 zw3 rfl rfl
 have hge : p.threads.length ≤ k := by simpa using g
 refine ret0 ⟨_, rfl, tyes ⟨w0, w1, w2, w3, by rw [hlen]; exact n1, by rw [hlen]; exact n4, fun t ht => ?_⟩, rfl⟩ (fun _ => rfl)
 rw [List.take_of_length_le (by rw [hlen]; exact hge)] at hinv
 exact hinv t ht
def OpS.small20 (m : List Op) : Prop := m.length ≤ 1048576
def Prog.small20 (s : Prog) : Prop := s.sems.length ≤ 1048576 ∧ s.groups.length ≤ 1048576 ∧ s.barriers.length ≤ 1048576 ∧ s.rooms.length ≤ 1048576 ∧ allS OpS.small20 s.threads
def Sem.small20 (m : Sem) : Prop := m.queue.length ≤ 1048576
def Once.small20 (m : Once) : Prop := m.waits.length ≤ 1048576
def Group.small20 (m : Group) : Prop := m.waits.length ≤ 1048576
def Barrier.small20 (m : Barrier) : Prop := m.waits.length ≤ 1048576
def Chan.small20 (m : Chan) : Prop := m.items.length ≤ 1048576 ∧ m.senders.length ≤ 1048576 ∧ m.getters.length ≤ 1048576
def State.small20 (s : State) : Prop := s.places.length ≤ 1048576 ∧ s.status.length ≤ 1048576 ∧ allS Sem.small20 s.sems ∧ allS Once.small20 s.onces ∧ allS Group.small20 s.groups ∧ allS Barrier.small20 s.barriers ∧ allS Chan.small20 s.chans ∧ s.said.length ≤ 1048576
set_option maxHeartbeats 16000000 in
set_option maxRecDepth 100000 in
theorem progValid_c (p : ProgH) (w : World) (h : At w [fR (progO p)]) (hs : p.sems.length ≤ 1048576 ∧ p.groups.length ≤ 1048576 ∧ p.barriers.length ≤ 1048576 ∧ p.rooms.length ≤ 1048576) :
   Calls Tryz.prog 57 #[progV p] w (Tells w (ProgOk p.pure)) := by
 refine calls1 Tryz.func57 rfl tabOk w _ rfl _ rfl _ h ⟨rfl, rfl, trivial⟩ _ (by decide) ?_
 refine stop_call _ cl105 rfl rfl rfl rfl ⟨rfl, rfl⟩ (fun A w hW => within_c p.h0 p.sems 1 9 w ⟨hW.get 0 rfl (.ofR (progO_sems p)), trivial⟩ (by omega)) ?_
 rintro v L ⟨b0, rfl, hb0, rfl⟩
 apply CaseB.mk <;> intro g
 · exact ret0 ⟨_, rfl, tno fun e => (by have := hb0.2 e.sems; rw [this] at g; cases g), rfl⟩ (fun _ => rfl)
 have w0 := hb0.1 z82
 refine stop_call _ cl105 rfl rfl rfl rfl ⟨rfl, rfl⟩ (fun A w hW => within_c p.h1 p.groups 0 9 w ⟨hW.get 0 rfl (.ofR (progO_groups p)), trivial⟩ (by omega)) ?_
 rintro v L ⟨b1, rfl, hb1, rfl⟩
 apply CaseB.mk <;> intro g
 · exact ret0 ⟨_, rfl, tno fun e => (by have := hb1.2 e.groups; rw [this] at g; cases g), rfl⟩ (fun _ => rfl)
 have w1 := hb1.1 z82
 refine stop_call _ cl105 rfl rfl rfl rfl ⟨rfl, rfl⟩ (fun A w hW => within_c p.h2 p.barriers 1 6 w ⟨hW.get 0 rfl (.ofR (progO_barriers p)), trivial⟩ (by omega)) ?_
 rintro v L ⟨b2, rfl, hb2, rfl⟩
 apply CaseB.mk <;> intro g
 · exact ret0 ⟨_, rfl, tno fun e => (by have := hb2.2 e.barriers; rw [this] at g; cases g), rfl⟩ (fun _ => rfl)
 have w2 := hb2.1 z82
 refine stop_call _ cl105 rfl rfl rfl rfl ⟨rfl, rfl⟩ (fun A w hW => within_c p.h3 p.rooms 0 4 w ⟨hW.get 0 rfl (.ofR (progO_rooms p)), trivial⟩ (by omega)) ?_
 rintro v L ⟨b3, rfl, hb3, rfl⟩
 apply CaseB.mk <;> intro g
 · exact ret0 ⟨_, rfl, tno fun e => (by have := hb3.2 e.rooms; rw [this] at g; cases g), rfl⟩ (fun _ => rfl)
 have w3 := hb3.1 z82
 have hlen : p.pure.threads.length = p.threads.length := by simp [ProgH.pure]
 apply CaseB.mk <;> intro g
 · have q : ¬ 1 ≤ p.threads.length := by have g' := of_decide_eq_true g; omega
   exact ret0 ⟨_, rfl, tno fun e => q (hlen ▸ e.n1), rfl⟩ (fun _ => rfl)
 have n1 : 1 ≤ p.threads.length := by have g' := of_decide_eq_false g; omega
 apply CaseB.mk <;> intro g
 · have q : ¬ p.threads.length ≤ 4 := by simp at g; omega
   exact ret0 ⟨_, rfl, tno fun e => q (hlen ▸ e.n4), rfl⟩ (fun _ => rfl)
 have n4 : p.threads.length ≤ 4 := by simp at g; omega
 have hmem : ∀ (k : Nat) (hk : k < p.threads.length), (p.threads[k]).m ∈ p.pure.threads := fun k hk => List.mem_map_of_mem (List.getElem_mem hk)
 refine LoopW.mk ⟨{ k : Nat // k ≤ p.threads.length ∧ ∀ t ∈ p.pure.threads.take k, t.length ≤ 8 ∧ ∀ o ∈ t, OpOk p.pure o },
   fun k => .mk [(1, .p 0 0), (42, .v (p.h4.val p.threads.length)), (43, .v (.int .i64 (p.threads.length : Int))), (44, .v (.int .i64 (k.1 : Int)))] 1 0 [(0, 37, 5)] [((0, 0), .v (p.h0.val p.sems.length)), ((0, 1), .v (p.h1.val p.groups.length)), ((0, 2), .v (p.h2.val p.barriers.length)), ((0, 3), .v (p.h3.val p.rooms.length)), ((0, 4), .v (p.h4.val p.threads.length))] [fR (progO p)],
   fun k => p.threads.length - k.1, ⟨0, Nat.zero_le _, by simp⟩, ?_, ?_⟩
 · exact weak_mk [0] zw2 zw0 zw2 zw5 zw4 rfl rfl
 rintro ⟨k, hk, hinv⟩
 apply CaseB.mk <;> intro g
 · have hlt : k < p.threads.length := by simpa using g
   have hget : p.pure.threads[k]'(by rw [hlen]; exact hlt) = (p.threads[k]).m := by simp [ProgH.pure]
   refine stop_idx encOpSH tabOk rfl rfl rfl rfl rfl ⟨rfl, rfl⟩ (rdVia 0 rfl (.trans (.R_R (progO_threads p)) (.ofR nest_h))) k rfl z34 (fun ad => ?_)
   apply CaseB.mk <;> intro g
   · have q : ¬ (p.threads[k]).m.length ≤ 8 := by simp at g; omega
     exact ret0 ⟨_, rfl, tno fun e => q (e.ops _ (hmem k hlt)).1, rfl⟩ (fun _ => rfl)
   have n8 : (p.threads[k]).m.length ≤ 8 := by simp at g; omega
   refine LoopW.mk ⟨{ j : Nat // j ≤ (p.threads[k]).m.length ∧ ∀ o ∈ (p.threads[k]).m.take j, OpOk p.pure o },
     fun j => .mk [(1, .p 0 0), (42, .v (p.h4.val p.threads.length)), (43, .v (.int .i64 (p.threads.length : Int))), (44, .v (.int .i64 (k : Int))), (51, .v ((p.threads[k]).q.val (p.threads[k]).m.length)), (52, .v (.int .i64 ((p.threads[k]).m.length : Int))), (53, .v (.int .i64 (j.1 : Int)))] 1 0 [(0, 37, 5)] [((0, 0), .v (p.h0.val p.sems.length)), ((0, 1), .v (p.h1.val p.groups.length)), ((0, 2), .v (p.h2.val p.barriers.length)), ((0, 3), .v (p.h3.val p.rooms.length)), ((0, 4), .v (p.h4.val p.threads.length))] [fR (progO p)],
     fun j => (p.threads[k]).m.length - j.1, ⟨0, Nat.zero_le _, by simp⟩, ?_, ?_⟩
   · exact weak_mk [0] zw2 zw0 zw2 zw5 zw4 rfl rfl
   rintro ⟨j, hj, hinv2⟩
   apply CaseB.mk <;> intro g
   · have hlj : j < (p.threads[k]).m.length := by simpa using g
     refine stop_idx encOp tabOk rfl rfl rfl rfl rfl ⟨rfl, rfl⟩ (rdVia 0 rfl (.trans (.R_R (progO_threads p)) (.ofR (threadsO_0 _ _ k hlt)))) j rfl z34 (fun ad2 => ?_)
     refine stop_call _ cl106 rfl rfl rfl rfl ⟨rfl, rfl⟩ (fun A w hW => opValid_c p _ w ⟨hW.get 0 rfl (.refl _), trivial⟩) ?_
     rintro v L ⟨b, rfl, hb, rfl⟩
     apply CaseB.mk <;> intro g
     · exact ret0 ⟨_, rfl, tno fun e => z43, rfl⟩ (fun _ => rfl)
     have hw := e_succ j _ hlj (by omega)
     refine ⟨⟨j + 1, by omega, fun o ho => ?_⟩, ?_, by simp; omega⟩
     · rw [List.take_succ_eq_append_getElem hlj] at ho
       rcases List.mem_append.1 ho with ho | ho
       · exact hinv2 o ho
       · simp at ho; subst ho; exact hb.1 z82
     · exact weak_mk [0] zw1 zw0 zw1 zw5 zw3 rfl rfl
   have hge2 : (p.threads[k]).m.length ≤ j := by simpa using g
   have hw := e_succ k _ hlt (by omega)
   refine ⟨⟨k + 1, by omega, fun t ht => ?_⟩, ?_, by simp; omega⟩
   · rw [List.take_succ_eq_append_getElem (by rw [hlen]; exact hlt)] at ht
     rcases List.mem_append.1 ht with ht | ht
     · exact hinv t ht
     · simp only [List.mem_singleton] at ht
       rw [hget] at ht
       subst ht
       exact ⟨n8, by rw [List.take_of_length_le hge2] at hinv2; exact hinv2⟩
   · exact weak_mk [0] zw1 zw0 zw1 zw5 zw3 rfl rfl
 have hge : p.threads.length ≤ k := by simpa using g
 refine ret0 ⟨_, rfl, tyes ⟨w0, w1, w2, w3, by rw [hlen]; exact n1, by rw [hlen]; exact n4, fun t ht => ?_⟩, rfl⟩ (fun _ => rfl)
 rw [List.take_of_length_le (by rw [hlen]; exact hge)] at hinv
 exact hinv t ht
def onceZ : OnceH := ⟨⟨0, 0, 0, []⟩, ⟨none, 0⟩⟩
def rest (ops : List Op) : Int := if ops.length = 0 then 3 else 0
def start (p : Prog) : State := ⟨p.threads.map fun _ => 0, p.threads.map rest, p.sems.map fun n => ⟨n, n, []⟩, [⟨0, 0, 0, []⟩, ⟨0, 0, 0, []⟩, ⟨0, 0, 0, []⟩], p.groups.map fun n => ⟨n, []⟩, p.barriers.map fun n => ⟨n, 0, []⟩, p.rooms.map fun n => ⟨n, [], [], [], false⟩, [], 0⟩
def State.zero : State := ⟨[], [], [], [], [], [], [], [], 0⟩
def StateH.zero : StateH := ⟨[], [], [], [], [], [], [], [], 0, ⟨none, 0⟩, ⟨none, 0⟩, ⟨none, 0⟩, ⟨none, 0⟩, ⟨none, 0⟩, ⟨none, 0⟩, ⟨none, 0⟩, ⟨none, 0⟩⟩
theorem zero_nil : ∀ g ∈ stateO StateH.zero, nilFact g := by
 intro g hg
 simp [stateO, StateH.zero, semsO, oncesO, groupsO, barriersO, chansO, nestO] at hg
 rcases hg with rfl | rfl | rfl | rfl | rfl | rfl | rfl | rfl <;> exact ⟨rfl, rfl, rfl, rfl⟩
def Started (p : Prog) (v : Value) (L : List Fct) : Prop := ∃ (y : StateH) (b : Bool), v = .tuple #[stateV y, .bool b] ∧ (b = true ↔ ProgOk p) ∧ (b = true → y.pure = start p) ∧ (b = false → y.pure = State.zero) ∧ L = [fO (stateO y)]
theorem nilOf {α : Type} {inner : α → List Fct} {xs : List α} (h : ∀ x ∈ xs, ∀ g ∈ inner x, nilFact g) : ∀ g ∈ xs.flatMap inner, nilFact g := fun g hg => by
 obtain ⟨x, hx, hg⟩ := List.mem_flatMap.1 hg
 exact h x hx g hg
set_option maxRecDepth 100000 in
theorem l7Rest_c (p : ProgH) (t c : Int) (k : Nat) (hk : k < p.threads.length) (ht : t = (k : Int)) (w : World) (h : At w [fR (progO p)]) :
   Calls Tryz.prog 146 #[progV p, .int .i64 t, .int .i64 c] w (Ret w fun v L => v = .int .i64 (if c = ((p.threads[k]).m.length : Int) then 3 else 0) ∧ L = []) := by
 refine calls3 Tryz.func146 rfl tabOk w _ rfl _ rfl _ h ⟨rfl, rfl, trivial⟩ _ _ _ (by decide) ?_
 refine stop_idx encOpSH tabOk rfl rfl rfl rfl rfl ⟨rfl, rfl⟩ (rdVia 0 rfl (.trans (.R_R (progO_threads p)) (.ofR nest_h))) k (ht) z34 (fun ad => ?_)
 apply CaseB.mk <;> intro g
 · have q : c = ((p.threads[k]).m.length : Int) := by simpa using g
   exact ret0 ⟨by rw [if_pos q], rfl⟩ (fun _ => rfl)
 · have q : ¬ c = ((p.threads[k]).m.length : Int) := by simpa using g
   exact ret0 ⟨by rw [if_neg q], rfl⟩ (fun _ => rfl)
set_option maxRecDepth 100000 in
theorem newSem_c (n : Int) (h0 : 1 ≤ n) (h1 : n ≤ 9) (w : World) : Calls Tryz.prog 147 #[.int .i64 n] w (Ret w fun v L => ∃ y : Sl, v = .tuple #[semV ⟨n, n, []⟩ y, .bool true] ∧ L = [own y 137 cWaiter 2 ([] : List Waiter)]) := by
 refine calls1 Tryz.func147 rfl tabOk w _ rfl _ rfl [] trivial trivial _ (by decide) ?_
 refine CaseB.mk (fun g => by simp at g; omega) (fun g => ?_)
 refine CaseB.mk (fun g => by simp at g; omega) (fun g => ?_)
 refine AllSl.mk fun y => ?_
 exact retw [0] ⟨y, rfl, rfl⟩ z115 rfl ⟨rfl, trivial⟩ (fun _ => rfl)
set_option maxRecDepth 100000 in
theorem newBarrier_c (n : Int) (h0 : 1 ≤ n) (h1 : n ≤ 6) (w : World) : Calls Tryz.prog 148 #[.int .i64 n] w (Ret w fun v L => ∃ y : Sl, v = .tuple #[barrierV ⟨n, 0, []⟩ y, .bool true] ∧ L = [own y 3 cInt 1 ([] : List Int)]) := by
 refine calls1 Tryz.func148 rfl tabOk w _ rfl _ rfl [] trivial trivial _ (by decide) ?_
 refine CaseB.mk (fun g => by simp at g; omega) (fun g => ?_)
 refine CaseB.mk (fun g => by simp at g; omega) (fun g => ?_)
 refine AllSl.mk fun y => ?_
 exact retw [0] ⟨y, rfl, rfl⟩ z115 rfl ⟨rfl, trivial⟩ (fun _ => rfl)
set_option maxRecDepth 100000 in
theorem newChan_c (n : Int) (h0 : 0 ≤ n) (h1 : n ≤ 4) (w : World) : Calls Tryz.prog 149 #[.int .i64 n] w (Ret w fun v L => ∃ y z u : Sl, v = .tuple #[chanV ⟨n, [], [], [], false⟩ y z u, .bool true] ∧ L = [own y 3 cInt 1 ([] : List Int), own z 144 cLet 2 ([] : List Letter), own u 3 cInt 1 ([] : List Int)]) := by
 refine calls1 Tryz.func149 rfl tabOk w _ rfl _ rfl [] trivial trivial _ (by decide) ?_
 refine CaseB.mk (fun g => by simp at g; omega) (fun g => ?_)
 refine CaseB.mk (fun g => by simp at g; omega) (fun g => ?_)
 refine AllSl.mk fun y => ?_
 refine AllSl.mk fun z => ?_
 refine AllSl.mk fun u => ?_
 exact retw [2, 1, 0] ⟨y, z, u, rfl, rfl⟩ ⟨.inl ⟨_, rfl, rfl⟩, .inl ⟨_, rfl, rfl⟩, .inl ⟨_, rfl, rfl⟩, trivial⟩ rfl ⟨rfl, rfl, rfl, trivial⟩ (fun _ => rfl)
set_option maxHeartbeats 16000000 in
set_option maxRecDepth 100000 in
theorem startProgS_c (p : ProgH) (w : World) (h : At w [fR (progO p)]) (hs : p.sems.length ≤ 1048576 ∧ p.groups.length ≤ 1048576 ∧ p.barriers.length ≤ 1048576 ∧ p.rooms.length ≤ 1048576) :
   Calls Tryz.prog 98 #[progV p] w (Ret w (Started p.pure)) := by
 refine calls1 Tryz.func98 rfl tabOk w _ rfl _ rfl _ h ⟨rfl, rfl, trivial⟩ _ (by decide) ?_
 refine stop_call _ cl65 rfl rfl rfl rfl ⟨rfl, rfl⟩ (fun A w hW => progValidS_c p w ⟨hW.get 0 rfl (.refl _), trivial⟩ hs) ?_
 rintro v L ⟨b, rfl, hb, rfl⟩
 apply CaseB.mk <;> intro g
 · have hn : ¬ ProgOk p.pure := fun e => by rw [hb.2 e] at g; cases g
   refine ret_shift (.joinO [90] (Gs := [_]) ⟨.inr ⟨Nat.le_of_ble_eq_true rfl, zero_nil⟩, trivial⟩ rfl (G := stateO StateH.zero) (.of_eq (by simp))) ?_
   exact retw [0] ⟨StateH.zero, false, rfl, tno hn, fun e => (by cases e), fun _ => rfl, rfl⟩ z115 rfl ⟨rfl, trivial⟩ (fun _ => rfl)
 have ok := hb.1 z82
 have n4 : p.threads.length ≤ 4 := by have := ok.n4; simpa [ProgH.pure] using this
 have m0 : p.sems.length ≤ 3 := ok.sems.1
 have m1 : p.groups.length ≤ 3 := ok.groups.1
 have m2 : p.barriers.length ≤ 3 := ok.barriers.1
 have m3 : p.rooms.length ≤ 3 := ok.rooms.1
 obtain ⟨LP, hLP⟩ : ∃ l, l = p.threads.map (fun _ => (0 : Int)) := ⟨_, rfl⟩
 obtain ⟨LS, hLS⟩ : ∃ l, l = p.threads.map (fun x => rest x.m) := ⟨_, rfl⟩
 have lP : LP.length = p.threads.length := by rw [hLP]; simp
 have lS : LS.length = p.threads.length := by rw [hLS]; simp
 refine LoopW.mk ⟨{ q : Nat × Sl × Sl // q.1 ≤ p.threads.length },
   fun q => .mk [(1, .p 0 0), (2, .p 1 0), (4, .p 2 0), (5, .v (.int .i64 (q.1.1 : Int)))] 3 0 [(0, 37, 5), (1, 30, 9), (2, 30, 9)]
     [((0, 0), .v (p.h0.val p.sems.length)), ((0, 1), .v (p.h1.val p.groups.length)), ((0, 2), .v (p.h2.val p.barriers.length)), ((0, 3), .v (p.h3.val p.rooms.length)), ((0, 4), .v (p.h4.val p.threads.length)), ((2, 0), .v (q.1.2.1.val (LP.take q.1.1).length)), ((2, 1), .v (q.1.2.2.val (LS.take q.1.1).length)), ((2, 2), .v (.slice none 0 0)), ((2, 3), .v (.slice none 0 0)), ((2, 4), .v (.slice none 0 0)), ((2, 5), .v (.slice none 0 0)), ((2, 6), .v (.slice none 0 0)), ((2, 7), .v (.slice none 0 0)), ((2, 8), .v (.int .i64 0))]
     [own q.1.2.1 3 cInt 1 (LP.take q.1.1), own q.1.2.2 3 cInt 1 (LS.take q.1.1), fR (progO p)],
   fun q => p.threads.length - q.1.1, ⟨(0, ⟨none, 0⟩, ⟨none, 0⟩), Nat.zero_le _⟩, ?_, ?_⟩
 · exact weak_mk [99, 98, 0] zw2 zw0 zw2 zw5 zw4 rfl rfl
 rintro ⟨⟨k, a, s⟩, hk⟩
 simp only at hk
 apply CaseB.mk <;> intro g
 · have hlt : k < p.threads.length := by simpa using g
   have eP : LP.take k ++ [0] = LP.take (k + 1) := by rw [hLP]; exact map_take_succ hlt rfl rfl
   have eS : ∀ x, x = rest (p.threads[k]).m → LS.take k ++ [x] = LS.take (k + 1) := fun x hx => by rw [hLS]; exact map_take_succ hlt rfl hx
   have hw := e_succ k _ hlt (by omega)
   refine AllSl.mk fun u => ?_
   refine stop_app encInt 1 tabOk (ys := [0]) rfl rfl rfl rfl rfl rfl rfl rfl rfl (by decide) ⟨rfl, rfl⟩ rfl z28 z34 z34 (fun a2 => ?_)
   rw [eP]
   have hr : (if (0 : Int) = ((p.threads[k]).m.length : Int) then (3 : Int) else 0) = rest (p.threads[k]).m := by
     simp only [rest]
     by_cases h0 : (p.threads[k]).m.length = 0
     · simp [h0]
     · rw [if_neg h0, if_neg (by omega)]
   refine draw_start tabOk z86 z86 z86 200 [((0, 0), .v (p.h0.val p.sems.length)), ((0, 1), .v (p.h1.val p.groups.length)), ((0, 2), .v (p.h2.val p.barriers.length)), ((0, 3), .v (p.h3.val p.rooms.length)), ((0, 4), .v (p.h4.val p.threads.length))] [3] [_] z92 z103 ⟨rfl, trivial⟩ rfl ?_
   refine BothW.mk ?_ ?_
   all_goals
     refine d_call _ cl146 rfl rfl rfl rfl ⟨rfl, rfl⟩ (fun A w hW => l7Rest_c p _ 0 k hlt rfl w ⟨hW.get 3 rfl (.refl _), trivial⟩) ?_
     rintro v L ⟨rfl, rfl⟩
     rw [hr]
   rotate_left
   · refine BothW.mk ?_ ?_
     all_goals
       refine AllSl.mk fun u2 => ?_
       refine d_app (ti := tiOf tab) encInt 3 tabOk (ys := [rest (p.threads[k]).m]) rfl rfl rfl rfl rfl rfl rfl rfl rfl (by decide) ⟨rfl, rfl⟩ rfl z28 z34 z34 z84 (fun s2 => ?_)
       rw [eS _ rfl]
       refine ⟨⟨(k + 1, a2, s2), by omega⟩, ?_, by simp only; omega⟩
       exact weak_mk [2, 0, 4] zw1 zw0 zw1 zw5 zw3 rfl rfl
   refine AllSl.mk fun u2 => ?_
   refine d_app (ti := tiOf tab) encInt 3 tabOk (ys := [rest (p.threads[k]).m]) rfl rfl rfl rfl rfl rfl rfl rfl rfl (by decide) ⟨rfl, rfl⟩ rfl z28 z34 z34 z84 (fun s2 => ?_)
   rw [eS _ rfl]
   refine ⟨⟨(k + 1, a2, s2), by omega⟩, ?_, by simp only; omega⟩
   exact weak_mk [2, 0, 4] zw1 zw0 zw1 zw5 zw3 rfl rfl
 have hge : p.threads.length ≤ k := by simpa using g
 have eP : LP.take k = LP := List.take_of_length_le (by omega)
 have eS : LS.take k = LS := List.take_of_length_le (by omega)
 refine LoopW.mk ⟨{ q : Nat × Sl × List SemH // q.1 ≤ p.sems.length ∧ q.2.2.map (·.m) = (p.sems.map fun n => (⟨n, n, []⟩ : Sem)).take q.1 },
   fun q => .mk [(1, .p 0 0), (2, .p 1 0), (4, .p 2 0), (6, .v (.int .i64 (q.1.1 : Int)))] 3 0 [(0, 37, 5), (1, 30, 9), (2, 30, 9)]
     [((0, 0), .v (p.h0.val p.sems.length)), ((0, 1), .v (p.h1.val p.groups.length)), ((0, 2), .v (p.h2.val p.barriers.length)), ((0, 3), .v (p.h3.val p.rooms.length)), ((0, 4), .v (p.h4.val p.threads.length)), ((2, 0), .v (a.val LP.length)), ((2, 1), .v (s.val LS.length)), ((2, 2), .v (q.1.2.1.val q.1.2.2.length)), ((2, 3), .v (.slice none 0 0)), ((2, 4), .v (.slice none 0 0)), ((2, 5), .v (.slice none 0 0)), ((2, 6), .v (.slice none 0 0)), ((2, 7), .v (.slice none 0 0)), ((2, 8), .v (.int .i64 0))]
     [own q.1.2.1 57 cSemH 3 q.1.2.2, fO (q.1.2.2.flatMap semO), own a 3 cInt 1 LP, own s 3 cInt 1 LS, fR (progO p)],
   fun q => p.sems.length - q.1.1, ⟨(0, ⟨none, 0⟩, []), Nat.zero_le _, by simp⟩, ?_, ?_⟩
 · refine weak_shift (.joinO [] (Gs := []) trivial rfl (.refl _)) ?_
   refine weak_mk [99, 0, 1, 2, 3] ?_ ?_ ?_ ?_ ?_ rfl rfl
   · exact zw20
   · exact zw0
   · exact zw20
   · exact zw5
   · repeat (first | exact trivial | refine ⟨.inl ⟨_, rfl, (by first | rfl | ((first | (rw [eP]; done) | (rw [eS]; done))))⟩, ?_⟩ | refine ⟨.inr z109, ?_⟩)
 rintro ⟨⟨k0, c0, l0⟩, hk, hl0⟩
 simp only at hk hl0
 have ln0 : l0.length = k0 := by have := congrArg List.length hl0; simp at this; omega
 apply CaseB.mk <;> intro g
 · have hlt : k0 < p.sems.length := by simpa using g
   have hw := e_succ k0 _ hlt (by omega)
   have hv := ok.sems.2 _ (List.getElem_mem hlt)
   refine stop_idx encInt tabOk rfl rfl rfl rfl rfl ⟨rfl, rfl⟩ (rdVia 4 rfl (.ofR (progO_sems p))) k0 rfl z34 (fun ad => ?_)
   refine stop_call _ cl147 rfl rfl rfl rfl ⟨rfl, rfl⟩ (fun A w hW => newSem_c _ hv.1 hv.2 w) ?_
   rintro v L ⟨y, rfl, rfl⟩
   refine AllSl.mk fun r => ?_
   generalize hx : (⟨⟨p.sems[k0], p.sems[k0], []⟩, y⟩ : SemH) = x
   have hxm : x.m = ⟨p.sems[k0], p.sems[k0], []⟩ := by rw [← hx]
   refine stop_app encSemH 2 tabOk (ys := [x]) rfl rfl rfl rfl rfl (by rw [← hx]; rfl) rfl rfl rfl (by decide) ⟨rfl, rfl⟩ rfl (by rw [← hx]; exact rdOwnAt 0 rfl) z62 z54 (fun c' => ?_)
   refine ⟨⟨(k0 + 1, c', l0 ++ [x]), by omega, by rw [List.map_append]; exact map_take_succ hlt hl0 hxm⟩, ?_, by simp only; omega⟩
   refine weak_shift (.joinO [2, 3] (Gs := [[_], _]) z107 rfl (G := (l0 ++ [x]).flatMap semO) (by subst hx; rw [List.flatMap_append]; exact (List.Perm.of_eq (by simp [semO])).trans List.perm_append_comm)) ?_
   exact weak_mk [1, 0, 3, 4, 5] zw1 zw0 zw1 zw5 zw3 rfl rfl
 have hge0 : p.sems.length ≤ k0 := by simpa using g
 have m0' : l0.map (·.m) = p.sems.map fun n => (⟨n, n, []⟩ : Sem) := by rw [hl0, List.take_of_length_le (by simpa using hge0)]
 refine LoopW.mk ⟨{ q : Nat × Sl // q.1 ≤ 3 },
   fun q => .mk [(1, .p 0 0), (2, .p 1 0), (4, .p 2 0), (9, .v (.int .i64 (q.1.1 : Int)))] 3 0 [(0, 37, 5), (1, 30, 9), (2, 30, 9)]
     [((0, 0), .v (p.h0.val p.sems.length)), ((0, 1), .v (p.h1.val p.groups.length)), ((0, 2), .v (p.h2.val p.barriers.length)), ((0, 3), .v (p.h3.val p.rooms.length)), ((0, 4), .v (p.h4.val p.threads.length)), ((2, 0), .v (a.val LP.length)), ((2, 1), .v (s.val LS.length)), ((2, 2), .v (c0.val l0.length)), ((2, 3), .v (q.1.2.val (List.replicate q.1.1 onceZ).length)), ((2, 4), .v (.slice none 0 0)), ((2, 5), .v (.slice none 0 0)), ((2, 6), .v (.slice none 0 0)), ((2, 7), .v (.slice none 0 0)), ((2, 8), .v (.int .i64 0))]
     [own q.1.2 70 cOnceH 4 (List.replicate q.1.1 onceZ), own c0 57 cSemH 3 l0, fO (l0.flatMap semO), own a 3 cInt 1 LP, own s 3 cInt 1 LS, fR (progO p)],
   fun q => 3 - q.1.1, ⟨(0, ⟨none, 0⟩), Nat.zero_le _⟩, ?_, ?_⟩
 · exact weak_mk [99, 0, 1, 2, 3, 4] zw2 zw0 zw2 zw5 zw4 rfl rfl
 rintro ⟨⟨k1, c1⟩, hk⟩
 simp only at hk
 apply CaseB.mk <;> intro g
 · have hlt : k1 < 3 := by have g' := of_decide_eq_true g; simp only at g'; omega
   have hw := e_succ k1 3 hlt (by omega)
   refine AllSl.mk fun u => ?_
   refine stop_app encOnceH 1 tabOk (ys := [onceZ]) rfl rfl rfl rfl rfl rfl rfl rfl rfl (by decide) ⟨rfl, rfl⟩ rfl z28 z34 z34 (fun c' => ?_)
   rw [← List.replicate_succ']
   refine ⟨⟨(k1 + 1, c'), by omega⟩, ?_, by simp only; omega⟩
   exact weak_mk [0, 2, 3, 4, 5, 6] zw1 zw0 zw1 zw5 zw3 rfl rfl
 have hge1 : k1 = 3 := by have g' := of_decide_eq_false g; simp only at g'; omega
 have e1 : List.replicate k1 onceZ = [onceZ, onceZ, onceZ] := by rw [hge1]; rfl
 obtain ⟨L2, hL2⟩ : ∃ l, l = p.groups.map (fun n => (⟨⟨n, []⟩, ⟨none, 0⟩⟩ : GroupH)) := ⟨_, rfl⟩
 have lenL2 : L2.length = p.groups.length := by rw [hL2]; simp
 refine LoopW.mk ⟨{ q : Nat × Sl // q.1 ≤ p.groups.length },
   fun q => .mk [(1, .p 0 0), (2, .p 1 0), (4, .p 2 0), (10, .v (.int .i64 (q.1.1 : Int)))] 3 0 [(0, 37, 5), (1, 30, 9), (2, 30, 9)]
     [((0, 0), .v (p.h0.val p.sems.length)), ((0, 1), .v (p.h1.val p.groups.length)), ((0, 2), .v (p.h2.val p.barriers.length)), ((0, 3), .v (p.h3.val p.rooms.length)), ((0, 4), .v (p.h4.val p.threads.length)), ((2, 0), .v (a.val LP.length)), ((2, 1), .v (s.val LS.length)), ((2, 2), .v (c0.val l0.length)), ((2, 3), .v (c1.val [onceZ, onceZ, onceZ].length)), ((2, 4), .v (q.1.2.val (L2.take q.1.1).length)), ((2, 5), .v (.slice none 0 0)), ((2, 6), .v (.slice none 0 0)), ((2, 7), .v (.slice none 0 0)), ((2, 8), .v (.int .i64 0))]
     [own q.1.2 74 cGroupH 2 (L2.take q.1.1), own c1 70 cOnceH 4 [onceZ, onceZ, onceZ], own c0 57 cSemH 3 l0, fO (l0.flatMap semO), own a 3 cInt 1 LP, own s 3 cInt 1 LS, fR (progO p)],
   fun q => p.groups.length - q.1.1, ⟨(0, ⟨none, 0⟩), Nat.zero_le _⟩, ?_, ?_⟩
 · refine weak_mk [99, 0, 1, 2, 3, 4, 5] ?_ ?_ ?_ ?_ ?_ rfl rfl
   · exact zw22
   · exact zw0
   · exact zw22
   · exact zw5
   · repeat (first | exact trivial | refine ⟨.inl ⟨_, rfl, (by first | rfl | ((first | (rw [e1]; done))))⟩, ?_⟩ | refine ⟨.inr z109, ?_⟩)
 rintro ⟨⟨k2, c2⟩, hk⟩
 simp only at hk
 apply CaseB.mk <;> intro g
 · have hlt : k2 < p.groups.length := by simpa using g
   have e : ∀ x, x = (⟨⟨p.groups[k2], []⟩, ⟨none, 0⟩⟩ : GroupH) → L2.take k2 ++ [x] = L2.take (k2 + 1) := fun x hx => by rw [hL2]; exact map_take_succ hlt rfl hx
   have hw := e_succ k2 _ hlt (by omega)
   refine draw_start tabOk z86 z86 z86 200 [((0, 0), .v (p.h0.val p.sems.length)), ((0, 1), .v (p.h1.val p.groups.length)), ((0, 2), .v (p.h2.val p.barriers.length)), ((0, 3), .v (p.h3.val p.rooms.length)), ((0, 4), .v (p.h4.val p.threads.length))] [6] [_] z92 z103 ⟨rfl, trivial⟩ rfl ?_
   refine d_idx (ti := tiOf tab) encInt tabOk rfl rfl rfl rfl rfl ⟨rfl, rfl⟩ (rdVia 0 rfl (.ofR (progO_groups p))) k2 rfl z34 (fun ad => ?_)
   refine BothW.mk ?_ ?_
   all_goals
     refine AllSl.mk fun u => ?_
     refine d_app (ti := tiOf tab) encGroupH 1 tabOk (ys := [⟨⟨p.groups[k2], []⟩, ⟨none, 0⟩⟩]) rfl rfl rfl rfl rfl rfl rfl rfl rfl (by decide) ⟨rfl, rfl⟩ rfl z28 z34 z34 z84 (fun c' => ?_)
     rw [e _ rfl]
     refine ⟨⟨(k2 + 1, c'), by omega⟩, ?_, by simp only; omega⟩
     exact weak_mk [0, 2, 3, 4, 5, 6, 7] zw1 zw0 zw1 zw5 zw3 rfl rfl
 have hge2 : p.groups.length ≤ k2 := by simpa using g
 have e2 : L2.take k2 = L2 := List.take_of_length_le (by omega)
 refine LoopW.mk ⟨{ q : Nat × Sl × List BarrierH // q.1 ≤ p.barriers.length ∧ q.2.2.map (·.m) = (p.barriers.map fun n => (⟨n, 0, []⟩ : Barrier)).take q.1 },
   fun q => .mk [(1, .p 0 0), (2, .p 1 0), (4, .p 2 0), (11, .v (.int .i64 (q.1.1 : Int)))] 3 0 [(0, 37, 5), (1, 30, 9), (2, 30, 9)]
     [((0, 0), .v (p.h0.val p.sems.length)), ((0, 1), .v (p.h1.val p.groups.length)), ((0, 2), .v (p.h2.val p.barriers.length)), ((0, 3), .v (p.h3.val p.rooms.length)), ((0, 4), .v (p.h4.val p.threads.length)), ((2, 0), .v (a.val LP.length)), ((2, 1), .v (s.val LS.length)), ((2, 2), .v (c0.val l0.length)), ((2, 3), .v (c1.val [onceZ, onceZ, onceZ].length)), ((2, 4), .v (c2.val L2.length)), ((2, 5), .v (q.1.2.1.val q.1.2.2.length)), ((2, 6), .v (.slice none 0 0)), ((2, 7), .v (.slice none 0 0)), ((2, 8), .v (.int .i64 0))]
     [own q.1.2.1 65 cBarrierH 3 q.1.2.2, fO (q.1.2.2.flatMap barrierO), own c2 74 cGroupH 2 L2, own c1 70 cOnceH 4 [onceZ, onceZ, onceZ], own c0 57 cSemH 3 l0, fO (l0.flatMap semO), own a 3 cInt 1 LP, own s 3 cInt 1 LS, fR (progO p)],
   fun q => p.barriers.length - q.1.1, ⟨(0, ⟨none, 0⟩, []), Nat.zero_le _, by simp⟩, ?_, ?_⟩
 · refine weak_shift (.joinO [] (Gs := []) trivial rfl (.refl _)) ?_
   refine weak_mk [99, 0, 1, 2, 3, 4, 5, 6, 7] ?_ ?_ ?_ ?_ ?_ rfl rfl
   · exact zw23
   · exact zw0
   · exact zw23
   · exact zw5
   · repeat (first | exact trivial | refine ⟨.inl ⟨_, rfl, (by first | rfl | ((first | (rw [e2]; done))))⟩, ?_⟩ | refine ⟨.inr z109, ?_⟩)
 rintro ⟨⟨k3, c3, l3⟩, hk, hl3⟩
 simp only at hk hl3
 have ln3 : l3.length = k3 := by have := congrArg List.length hl3; simp at this; omega
 apply CaseB.mk <;> intro g
 · have hlt : k3 < p.barriers.length := by simpa using g
   have hw := e_succ k3 _ hlt (by omega)
   have hv := ok.barriers.2 _ (List.getElem_mem hlt)
   refine stop_idx encInt tabOk rfl rfl rfl rfl rfl ⟨rfl, rfl⟩ (rdVia 8 rfl (.ofR (progO_barriers p))) k3 rfl z34 (fun ad => ?_)
   refine stop_call _ cl148 rfl rfl rfl rfl ⟨rfl, rfl⟩ (fun A w hW => newBarrier_c _ hv.1 hv.2 w) ?_
   rintro v L ⟨y, rfl, rfl⟩
   refine AllSl.mk fun r => ?_
   generalize hx : (⟨⟨p.barriers[k3], 0, []⟩, y⟩ : BarrierH) = x
   have hxm : x.m = ⟨p.barriers[k3], 0, []⟩ := by rw [← hx]
   refine stop_app encBarrierH 2 tabOk (ys := [x]) rfl rfl rfl rfl rfl (by rw [← hx]; rfl) rfl rfl rfl (by decide) ⟨rfl, rfl⟩ rfl (by rw [← hx]; exact rdOwnAt 0 rfl) z62 z54 (fun c' => ?_)
   refine ⟨⟨(k3 + 1, c', l3 ++ [x]), by omega, by rw [List.map_append]; exact map_take_succ hlt hl3 hxm⟩, ?_, by simp only; omega⟩
   refine weak_shift (.joinO [2, 3] (Gs := [[_], _]) z107 rfl (G := (l3 ++ [x]).flatMap barrierO) (by subst hx; rw [List.flatMap_append]; exact (List.Perm.of_eq (by simp [barrierO])).trans List.perm_append_comm)) ?_
   exact weak_mk [1, 0, 3, 4, 5, 6, 7, 8, 9] zw1 zw0 zw1 zw5 zw3 rfl rfl
 have hge3 : p.barriers.length ≤ k3 := by simpa using g
 have m3' : l3.map (·.m) = p.barriers.map fun n => (⟨n, 0, []⟩ : Barrier) := by rw [hl3, List.take_of_length_le (by simpa using hge3)]
 refine LoopW.mk ⟨{ q : Nat × Sl × List ChanH // q.1 ≤ p.rooms.length ∧ q.2.2.map (·.m) = (p.rooms.map fun n => (⟨n, [], [], [], false⟩ : Chan)).take q.1 },
   fun q => .mk [(1, .p 0 0), (2, .p 1 0), (4, .p 2 0), (14, .v (.int .i64 (q.1.1 : Int)))] 3 0 [(0, 37, 5), (1, 30, 9), (2, 30, 9)]
     [((0, 0), .v (p.h0.val p.sems.length)), ((0, 1), .v (p.h1.val p.groups.length)), ((0, 2), .v (p.h2.val p.barriers.length)), ((0, 3), .v (p.h3.val p.rooms.length)), ((0, 4), .v (p.h4.val p.threads.length)), ((2, 0), .v (a.val LP.length)), ((2, 1), .v (s.val LS.length)), ((2, 2), .v (c0.val l0.length)), ((2, 3), .v (c1.val [onceZ, onceZ, onceZ].length)), ((2, 4), .v (c2.val L2.length)), ((2, 5), .v (c3.val l3.length)), ((2, 6), .v (q.1.2.1.val q.1.2.2.length)), ((2, 7), .v (.slice none 0 0)), ((2, 8), .v (.int .i64 0))]
     [own q.1.2.1 80 cChanH 5 q.1.2.2, fO (q.1.2.2.flatMap chanO), own c3 65 cBarrierH 3 l3, fO (l3.flatMap barrierO), own c2 74 cGroupH 2 L2, own c1 70 cOnceH 4 [onceZ, onceZ, onceZ], own c0 57 cSemH 3 l0, fO (l0.flatMap semO), own a 3 cInt 1 LP, own s 3 cInt 1 LS, fR (progO p)],
   fun q => p.rooms.length - q.1.1, ⟨(0, ⟨none, 0⟩, []), Nat.zero_le _, by simp⟩, ?_, ?_⟩
 · refine weak_shift (.joinO [] (Gs := []) trivial rfl (.refl _)) ?_
   exact weak_mk [99, 0, 1, 2, 3, 4, 5, 6, 7, 8, 9] zw2 zw0 zw2 zw5 zw4 rfl rfl
 rintro ⟨⟨k4, c4, l4⟩, hk, hl4⟩
 simp only at hk hl4
 have ln4 : l4.length = k4 := by have := congrArg List.length hl4; simp at this; omega
 apply CaseB.mk <;> intro g
 · have hlt : k4 < p.rooms.length := by simpa using g
   have hw := e_succ k4 _ hlt (by omega)
   have hv := ok.rooms.2 _ (List.getElem_mem hlt)
   refine stop_idx encInt tabOk rfl rfl rfl rfl rfl ⟨rfl, rfl⟩ (rdVia 10 rfl (.ofR (progO_rooms p))) k4 rfl z34 (fun ad => ?_)
   refine stop_call _ cl149 rfl rfl rfl rfl ⟨rfl, rfl⟩ (fun A w hW => newChan_c _ hv.1 hv.2 w) ?_
   rintro v L ⟨y, z, u, rfl, rfl⟩
   refine AllSl.mk fun r => ?_
   generalize hx : (⟨⟨p.rooms[k4], [], [], [], false⟩, y, z, u⟩ : ChanH) = x
   have hxm : x.m = ⟨p.rooms[k4], [], [], [], false⟩ := by rw [← hx]
   refine stop_app encChanH 4 tabOk (ys := [x]) rfl rfl rfl rfl rfl (by rw [← hx]; rfl) rfl rfl rfl (by decide) ⟨rfl, rfl⟩ rfl (by rw [← hx]; exact rdOwnAt 0 rfl) z62 z54 (fun c' => ?_)
   refine ⟨⟨(k4 + 1, c', l4 ++ [x]), by omega, by rw [List.map_append]; exact map_take_succ hlt hl4 hxm⟩, ?_, by simp only; omega⟩
   refine weak_shift (.joinO [2, 3, 4, 5] (Gs := [[_], [_], [_], _]) z94 rfl (G := (l4 ++ [x]).flatMap chanO) (by subst hx; rw [List.flatMap_append]; exact (List.Perm.of_eq (by simp [chanO])).trans List.perm_append_comm)) ?_
   exact weak_mk [1, 0, 3, 4, 5, 6, 7, 8, 9, 10, 11] zw1 zw0 zw1 zw5 zw3 rfl rfl
 have hge4 : p.rooms.length ≤ k4 := by simpa using g
 have m4' : l4.map (·.m) = p.rooms.map fun n => (⟨n, [], [], [], false⟩ : Chan) := by rw [hl4, List.take_of_length_le (by simpa using hge4)]
 generalize hy : (⟨LP, LS, l0, [onceZ, onceZ, onceZ], L2, l3, l4, [], 0, a, s, c0, c1, c2, c3, c4, ⟨none, 0⟩⟩ : StateH) = Y
 have nil1 : ∀ g ∈ L2.flatMap groupO, nilFact g := nilOf fun x hx g hg => by
   rw [hL2] at hx; obtain ⟨n, _, rfl⟩ := List.mem_map.1 hx; simp [groupO] at hg; subst hg; exact ⟨rfl, rfl, rfl, rfl⟩
 have nil4 : ∀ g ∈ [onceZ, onceZ, onceZ].flatMap onceO, nilFact g := nilOf fun x hx g hg => by
   simp at hx; subst hx; simp [onceO, onceZ] at hg; subst hg; exact ⟨rfl, rfl, rfl, rfl⟩
 have nil5 : ∀ g ∈ [own ⟨none, 0⟩ 3 cInt 1 ([] : List Int)], nilFact g := fun g hg => by
   simp at hg; subst hg; exact ⟨rfl, rfl, rfl, rfl⟩
 refine ret_shift (.joinO [8, 9, 6, 7, 5, 90, 4, 91, 2, 3, 0, 1, 92] (Gs := [[_], [_], [_], _, [_], _, [_], _, [_], _, [_], _, _])
   ⟨.inl ⟨_, rfl, .own⟩, .inl ⟨_, rfl, .own⟩, .inl ⟨_, rfl, .own⟩, .inl ⟨_, rfl, .o⟩, .inl ⟨_, rfl, .own⟩, .inr ⟨Nat.le_of_ble_eq_true rfl, nil4⟩, .inl ⟨_, rfl, .own⟩, .inr ⟨Nat.le_of_ble_eq_true rfl, nil1⟩, .inl ⟨_, rfl, .own⟩, .inl ⟨_, rfl, .o⟩, .inl ⟨_, rfl, .own⟩, .inl ⟨_, rfl, .o⟩, .inr ⟨Nat.le_of_ble_eq_true rfl, nil5⟩, trivial⟩ rfl (G := stateO Y) (.of_eq (by rw [← hy]; simp [stateO, semsO, oncesO, groupsO, barriersO, chansO, nestO]))) ?_
 have hYp : Y.pure = start p.pure := by
   rw [← hy]
   simp only [StateH.pure, start, ProgH.pure, hLP, hLS, hL2, m0', m3', m4']
   simp [onceZ]
 exact retw [0] ⟨Y, true, by rw [← hy], tyes ok, fun _ => hYp, fun e => (by cases e), rfl⟩ z115 rfl ⟨rfl, trivial⟩ (fun _ => rfl)
theorem within_small {xs : List Int} {lo hi : Int} (h : within xs lo hi) : xs.length ≤ 1048576 := Nat.le_trans h.1 (by decide)
theorem start_small {p : Prog} (ok : ProgOk p) : (start p).small20 := by
 have h1 := within_small ok.sems
 have h2 := within_small ok.groups
 have h3 := within_small ok.barriers
 have h4 := within_small ok.rooms
 have h5 := ok.n4
 refine ⟨by simp [start]; omega, by simp [start]; omega, ⟨by simp [start]; omega, ?_⟩, ⟨by simp [start], ?_⟩, ⟨by simp [start]; omega, ?_⟩, ⟨by simp [start]; omega, ?_⟩, ⟨by simp [start]; omega, ?_⟩, by simp [start]⟩
 · intro x hx; obtain ⟨n, _, rfl⟩ := List.mem_map.1 hx; simp [Sem.small20]
 · intro x hx; simp [start] at hx; subst hx; simp [Once.small20]
 · intro x hx; obtain ⟨n, _, rfl⟩ := List.mem_map.1 hx; simp [Group.small20]
 · intro x hx; obtain ⟨n, _, rfl⟩ := List.mem_map.1 hx; simp [Barrier.small20]
 · intro x hx; obtain ⟨n, _, rfl⟩ := List.mem_map.1 hx; simp [Chan.small20]
theorem zero_small20 : State.zero.small20 := by
 refine ⟨by simp [State.zero], by simp [State.zero], ⟨by simp [State.zero], ?_⟩, ⟨by simp [State.zero], ?_⟩, ⟨by simp [State.zero], ?_⟩, ⟨by simp [State.zero], ?_⟩, ⟨by simp [State.zero], ?_⟩, by simp [State.zero]⟩
 all_goals
   intro x hx
   simp [State.zero] at hx
theorem Started.one (p : Prog) : ∃ (S : State) (c : Bool), S.small20 ∧ ∀ (y : StateH) (b : Bool), (b = true ↔ ProgOk p) → (b = true → y.pure = start p) → (b = false → y.pure = State.zero) → y.pure = S ∧ b = c := by
 by_cases ok : ProgOk p
 · refine ⟨start p, true, start_small ok, fun y b h1 h2 _ => ?_⟩
   have := h1.2 ok
   exact ⟨h2 this, this⟩
 · refine ⟨State.zero, false, zero_small20, fun y b h1 _ h3 => ?_⟩
   cases b with
   | true => exact (ok (h1.1 rfl)).elim
   | false => exact ⟨h3 rfl, rfl⟩
theorem prog_small {a : ProgH} (h : a.pure.small20) : a.sems.length ≤ 1048576 ∧ a.groups.length ≤ 1048576 ∧ a.barriers.length ≤ 1048576 ∧ a.rooms.length ≤ 1048576 := ⟨h.1, h.2.1, h.2.2.1, h.2.2.2.1⟩
theorem OpOk.near {p : Prog} (ok : ProgOk p) {o : Op} (h : OpOk p o) : o.near := by
 obtain ⟨h1, h2, h3, h4, h5⟩ := h
 have hs : p.shared o.kind ≤ 4 := by
   have := ok.sems.1
   have := ok.groups.1
   have := ok.barriers.1
   have := ok.rooms.1
   unfold Prog.shared
   repeat' split
   all_goals omega
 have ha : -100 ≤ o.arg ∧ o.arg ≤ 1000 := by
   unfold Prog.argOk at h5
   split at h5
   · have hg : p.sems.getD o.on.toNat 0 ≤ 9 := by
       rw [List.getD_eq_getElem?_getD]
       cases e : p.sems[o.on.toNat]? with
       | none => simp
       | some x => exact (ok.sems.2 x (List.mem_of_getElem? e)).2
     omega
   · split at h5
     · omega
     · split at h5
       · simp [isValue] at h5; omega
       · omega
 exact ⟨by omega, by omega, by omega, by omega⟩
theorem within_near {l : List Int} {a b : Int} (h : within l a b) (ha : -1000 ≤ a) (hb : b ≤ 1000) : ∀ x ∈ l, nearN x := fun x hx => by
 have := h.2 x hx
 exact ⟨by omega, by omega⟩
theorem fmtOps_at {first : Bool} {out : Str} {l : List Op} {k : Nat} (h : k < l.length) : fmtOps first out (l.drop k) = fmtOps false (((if first = true then out else out ++ [44]) ++ [32]) ++ fmtOpM l[k]) (l.drop (k + 1)) := by
 rw [List.drop_eq_getElem_cons h, fmtOps]
theorem fmtThreads_at {out : Str} {l : List (List Op)} {k : Nat} (h : k < l.length) : fmtThreads out (l.drop k) = fmtThreads (fmtOps true (out ++ [116, 104, 114, 101, 97, 100]) l[k] ++ [10]) (l.drop (k + 1)) := by
 rw [List.drop_eq_getElem_cons h, fmtThreads]
set_option maxHeartbeats 16000000 in
set_option maxRecDepth 100000 in
theorem fmtProg_c (p : ProgH) (w : World) (h : At w [fR (progO p)]) (ok : ProgOk p.pure) :
   Calls Tryz.prog 164 #[progV p] w (Ret w fun v L => v = .string (bs (fmtProgM p.pure)) ∧ L = []) := by
 have s0 : p.sems.length ≤ 3 := ok.sems.1
 have s1 : p.groups.length ≤ 3 := ok.groups.1
 have s2 : p.barriers.length ≤ 3 := ok.barriers.1
 have s3 : p.rooms.length ≤ 3 := ok.rooms.1
 have lt : p.pure.threads.length = p.threads.length := by simp [ProgH.pure]
 have s4 : p.threads.length ≤ 4 := by rw [← lt]; exact ok.n4
 have q0 := listM_len [115, 101, 109, 115] p.sems
 have q1 := listM_len [103, 114, 111, 117, 112, 115] p.groups
 have q2 := listM_len [98, 97, 114, 114, 105, 101, 114, 115] p.barriers
 have q3 := listM_len [114, 111, 111, 109, 115] p.rooms
 simp only [List.length_cons, List.length_nil] at q0 q1 q2 q3
 refine calls1 Tryz.func164 rfl tabOk w _ rfl _ rfl _ h ⟨rfl, rfl, trivial⟩ _ (by decide) ?_
 refine stop_call _ cl65 rfl rfl rfl rfl ⟨rfl, rfl⟩ (fun A w hW => progValidS_c p w ⟨hW.get 0 rfl (.refl _), trivial⟩ ⟨by omega, by omega, by omega, by omega⟩) ?_
 rintro v L ⟨b0, rfl, hb0, rfl⟩
 refine CaseB.mk (fun g => by rw [hb0.2 ok] at g; cases g) (fun _ => ?_)
 refine draw_start tabOk z86 z86 z86 200 [((0, 0), .v (p.h0.val p.sems.length)), ((0, 1), .v (p.h1.val p.groups.length)), ((0, 2), .v (p.h2.val p.barriers.length)), ((0, 3), .v (p.h3.val p.rooms.length)), ((0, 4), .v (p.h4.val p.threads.length))] [] [] z92 z103 trivial rfl ?_
 refine d_call _ cl173 rfl rfl rfl rfl ⟨rfl, rfl⟩ (fun A w hW => (list_c [115, 101, 109, 115] p.h0 p.sems w ⟨hW.get 0 rfl (.ofR (progO_sems p)), trivial⟩ (by decide) (by omega) (within_near ok.sems (by decide) (by decide)))) ?_
 rintro v L ⟨rfl, rfl⟩
 refine d_call _ cl173 rfl rfl rfl rfl ⟨rfl, rfl⟩ (fun A w hW => (list_c [103, 114, 111, 117, 112, 115] p.h1 p.groups w ⟨hW.get 0 rfl (.ofR (progO_groups p)), trivial⟩ (by decide) (by omega) (within_near ok.groups (by decide) (by decide)))) ?_
 rintro v L ⟨rfl, rfl⟩
 refine d_bin rfl rfl rfl ⟨rfl, rfl⟩ (.string (bs ((listM [115, 101, 109, 115] p.sems) ++ (listM [103, 114, 111, 117, 112, 115] p.groups)))) (fun w => eqGuard_str w) (fun w => sadd_run (by omega) w) ?_
 refine d_call _ cl173 rfl rfl rfl rfl ⟨rfl, rfl⟩ (fun A w hW => (list_c [98, 97, 114, 114, 105, 101, 114, 115] p.h2 p.barriers w ⟨hW.get 0 rfl (.ofR (progO_barriers p)), trivial⟩ (by decide) (by omega) (within_near ok.barriers (by decide) (by decide)))) ?_
 rintro v L ⟨rfl, rfl⟩
 refine d_bin rfl rfl rfl ⟨rfl, rfl⟩ (.string (bs ((listM [115, 101, 109, 115] p.sems ++ listM [103, 114, 111, 117, 112, 115] p.groups) ++ (listM [98, 97, 114, 114, 105, 101, 114, 115] p.barriers)))) (fun w => eqGuard_str w) (fun w => sadd_run (by simp only [List.length_append]; omega) w) ?_
 refine d_call _ cl173 rfl rfl rfl rfl ⟨rfl, rfl⟩ (fun A w hW => (list_c [114, 111, 111, 109, 115] p.h3 p.rooms w ⟨hW.get 0 rfl (.ofR (progO_rooms p)), trivial⟩ (by decide) (by omega) (within_near ok.rooms (by decide) (by decide)))) ?_
 rintro v L ⟨rfl, rfl⟩
 refine d_bin rfl rfl rfl ⟨rfl, rfl⟩ (.string (bs (((listM [115, 101, 109, 115] p.sems ++ listM [103, 114, 111, 117, 112, 115] p.groups) ++ listM [98, 97, 114, 114, 105, 101, 114, 115] p.barriers) ++ (listM [114, 111, 111, 109, 115] p.rooms)))) (fun w => eqGuard_str w) (fun w => sadd_run (by simp only [List.length_append]; omega) w) ?_
 have hF : fmtProgM p.pure = fmtThreads (((listM [115, 101, 109, 115] p.sems ++ listM [103, 114, 111, 117, 112, 115] p.groups) ++ listM [98, 97, 114, 114, 105, 101, 114, 115] p.barriers) ++ listM [114, 111, 111, 109, 115] p.rooms) p.pure.threads := rfl
 rw [hF]
 have hol : ((((listM [115, 101, 109, 115] p.sems ++ listM [103, 114, 111, 117, 112, 115] p.groups) ++ listM [98, 97, 114, 114, 105, 101, 114, 115] p.barriers) ++ listM [114, 111, 111, 109, 115] p.rooms)).length ≤ 1000 := by simp only [List.length_append]; omega
 clear hF q0 q1 q2 q3
 generalize (((listM [115, 101, 109, 115] p.sems ++ listM [103, 114, 111, 117, 112, 115] p.groups) ++ listM [98, 97, 114, 114, 105, 101, 114, 115] p.barriers) ++ listM [114, 111, 111, 109, 115] p.rooms) = o1 at hol ⊢
 refine LoopW.mk ⟨{ q : Nat × Str // q.1 ≤ p.threads.length ∧ fmtThreads o1 p.pure.threads = fmtThreads q.2 (p.pure.threads.drop q.1) ∧ q.2.length ≤ 1000 + 1000 * q.1 },
   fun q => .mk [(1, .p 0 0), (3, .v (.string (bs q.1.2))), (4, .v (.int .i64 (q.1.1 : Int)))] 1 0 [(0, 37, 5)] [((0, 4), .v (p.h4.val p.threads.length))] [fR (progO p)],
   fun q => p.threads.length - q.1.1, ⟨(0, o1), Nat.zero_le _, rfl, by simpa using hol⟩, ?_, ?_⟩
 · exact weak_mk [0] zw2 zw0 zw2 zw5 zw4 rfl rfl
 rintro ⟨⟨i, out⟩, i1, i2, i3⟩
 simp only at i1 i2 i3 ⊢
 apply CaseB.mk <;> intro g
 · have hlt : i < p.threads.length := by have := of_decide_eq_true g; omega
   have hlt2 : i < p.pure.threads.length := by omega
   have hw := e_succ i _ hlt (by omega)
   have ht : p.pure.threads[i] = (p.threads[i]).m := by simp [ProgH.pure]
   have hopk := ok.ops _ (List.getElem_mem hlt2)
   rw [ht] at hopk
   rw [fmtThreads_at hlt2, ht] at i2
   refine stop_bin rfl rfl rfl ⟨rfl, rfl⟩ (.string (bs (out ++ [116, 104, 114, 101, 97, 100]))) (fun w => eqGuard_str w) (fun w => sadd_run z62 w) ?_
   obtain ⟨ops, hops⟩ : ∃ ops, ops = (p.threads[i]).m := ⟨_, rfl⟩
   rw [← hops] at hopk i2
   refine LoopW.mk ⟨{ q : Nat × Str // q.1 ≤ ops.length ∧ fmtOps true (out ++ [116, 104, 114, 101, 97, 100]) ops = fmtOps (decide (q.1 = 0)) q.2 (ops.drop q.1) ∧ q.2.length ≤ out.length + 6 + 62 * q.1 },
     fun q => .mk [(1, .p 0 0), (3, .v (.string (bs q.1.2))), (4, .v (.int .i64 (i : Int))), (5, .v (.int .i64 (q.1.1 : Int)))] 1 0 [(0, 37, 5)] [((0, 4), .v (p.h4.val p.threads.length))] [fR (progO p)],
     fun q => ops.length - q.1.1, ⟨(0, out ++ [116, 104, 114, 101, 97, 100]), Nat.zero_le _, rfl, by simp⟩, ?_, ?_⟩
   · exact weak_mk [0] zw2 zw0 zw2 zw5 zw4 rfl rfl
   rintro ⟨⟨k, o2⟩, k1, k2, k3⟩
   simp only at k1 k2 k3 ⊢
   subst hops
   refine stop_idx encOpSH tabOk rfl rfl rfl rfl rfl ⟨rfl, rfl⟩ (rdVia 0 rfl (.trans (.R_R (progO_threads p)) (.ofR nest_h))) i rfl z34 (fun ad => ?_)
   refine CaseB.mk (fun g2 => ?_) (fun g2 => ?_)
   · have hkl : k < (p.threads[i]).m.length := by have := of_decide_eq_true g2; omega
     have hw2 := e_succ k _ hkl (by omega)
     have hne := OpOk.near ok (hopk.2 _ (List.getElem_mem hkl))
     have hfl := fmtOpM_len ((p.threads[i]).m[k])
     rw [fmtOps_at hkl] at k2
     refine CaseB.mk (fun g3 => ?_) (fun g3 => ?_)
     · have hk0 : ¬ k = 0 := by have := of_decide_eq_true g3; omega
       rw [decide_eq_false hk0, if_neg (by decide)] at k2
       refine stop_bin rfl rfl rfl ⟨rfl, rfl⟩ (.string (bs (o2 ++ [44]))) (fun w => eqGuard_str w) (fun w => sadd_run z62 w) ?_
       refine stop_bin rfl rfl rfl ⟨rfl, rfl⟩ (.string (bs ((o2 ++ [44]) ++ [32]))) (fun w => eqGuard_str w) (fun w => sadd_run z48 w) ?_
       refine stop_idx encOpSH tabOk rfl rfl rfl rfl rfl ⟨rfl, rfl⟩ (rdVia 0 rfl (.trans (.R_R (progO_threads p)) (.ofR nest_h))) i rfl z34 (fun ad2 => ?_)
       refine stop_idx encOp tabOk rfl rfl rfl rfl rfl ⟨rfl, rfl⟩ (rdVia 0 rfl (.trans (.R_R (progO_threads p)) (.ofR (threadsO_0 _ _ i hlt)))) k rfl hkl (fun ad3 => ?_)
       refine stop_call _ cl174 rfl rfl rfl rfl ⟨rfl, rfl⟩ (fun A w hW => (fmtOp_c _ w hne)) ?_
       rintro v L ⟨rfl, rfl⟩
       refine stop_bin rfl rfl rfl ⟨rfl, rfl⟩ (.string (bs (((o2 ++ [44]) ++ [32]) ++ (fmtOpM ((p.threads[i]).m[k]))))) (fun w => eqGuard_str w) (fun w => sadd_run z48 w) ?_
       refine ⟨⟨(k + 1, ((o2 ++ [44]) ++ [32]) ++ fmtOpM ((p.threads[i]).m[k])), hkl, by rw [decide_eq_false (by omega)]; exact k2, by simp only [List.length_append, List.length_cons, List.length_nil]; omega⟩, ?_, by simp only; omega⟩
       exact weak_mk [0] zw8 zw0 zw8 zw5 zw17 rfl rfl
     have hk0 : k = 0 := by have := of_decide_eq_false g3; omega
     rw [decide_eq_true hk0, if_pos rfl] at k2
     refine stop_bin rfl rfl rfl ⟨rfl, rfl⟩ (.string (bs (o2 ++ [32]))) (fun w => eqGuard_str w) (fun w => sadd_run z48 w) ?_
     refine stop_idx encOpSH tabOk rfl rfl rfl rfl rfl ⟨rfl, rfl⟩ (rdVia 0 rfl (.trans (.R_R (progO_threads p)) (.ofR nest_h))) i rfl z34 (fun ad2 => ?_)
     refine stop_idx encOp tabOk rfl rfl rfl rfl rfl ⟨rfl, rfl⟩ (rdVia 0 rfl (.trans (.R_R (progO_threads p)) (.ofR (threadsO_0 _ _ i hlt)))) k rfl hkl (fun ad3 => ?_)
     refine stop_call _ cl174 rfl rfl rfl rfl ⟨rfl, rfl⟩ (fun A w hW => (fmtOp_c _ w hne)) ?_
     rintro v L ⟨rfl, rfl⟩
     refine stop_bin rfl rfl rfl ⟨rfl, rfl⟩ (.string (bs ((o2 ++ [32]) ++ (fmtOpM ((p.threads[i]).m[k]))))) (fun w => eqGuard_str w) (fun w => sadd_run z48 w) ?_
     refine ⟨⟨(k + 1, (o2 ++ [32]) ++ fmtOpM ((p.threads[i]).m[k])), hkl, by rw [decide_eq_false (by omega)]; exact k2, by simp only [List.length_append, List.length_cons, List.length_nil]; omega⟩, ?_, by simp only; omega⟩
     exact weak_mk [0] zw8 zw0 zw8 zw5 zw17 rfl rfl
   have hge : (p.threads[i]).m.length ≤ k := by have := of_decide_eq_false g2; omega
   rw [List.drop_eq_nil_of_le hge, fmtOps] at k2
   rw [k2] at i2
   refine stop_bin rfl rfl rfl ⟨rfl, rfl⟩ (.string (bs (o2 ++ [10]))) (fun w => eqGuard_str w) (fun w => sadd_run z48 w) ?_
   refine ⟨⟨(i + 1, o2 ++ [10]), hlt, i2, by simp only [List.length_append, List.length_cons, List.length_nil]; omega⟩, ?_, by simp only; omega⟩
   exact weak_mk [0] zw1 zw0 zw1 zw5 zw3 rfl rfl
 have hge : p.pure.threads.length ≤ i := by have := of_decide_eq_false g; omega
 rw [List.drop_eq_nil_of_le hge, fmtThreads] at i2
 rw [i2]
 exact ret0 ⟨rfl, rfl⟩ (fun _ => rfl)
end Go.Proofs.YtjkkoonennpceaaGreat
namespace Go.Sx
open Go Go.RowKit
section
variable {P : Program} {f : FuncId} {fn : Func} {x : Code} {R : Ending → World → Prop} {ti : Nat → TI}
theorem callsPGc_fn (hf : P.funcs[f]? = some fn) (hb : fn.body = some x) (hti : ∀ t, TIok P t (ti t)) (w : World) (N : Nat) (hN : fn.ntmps = N) (rs : List ResultVar) (hrs : fn.results.toList = rs) (g : Nat) (ty : TypeId) (cs : List Value) (sz : Nat) (hsz : listLen cs = sz) (hg : Blk w g ty cs) (G Fo : List Fct) (hF : AtG w G Fo) (hoff : ∀ f ∈ G ++ Fo, ∀ b, f.foot b → b ≠ g) (ho : initOk Fo)
   (l : List Value) (args : Array Value) (ha : args.toList = l ++ [.pointer (some ⟨g, 0, none⟩)]) (hl : Nat.ble (l.length + 1) N = true)
   (hv : vcCode (mkEnvPG P w N g G) ti x (bodyK (mkEnvPG P w N g G) ti rs R) (.mk (initT 0 (l.map .v ++ [.p 0 0])) 1 0 [(0, ty, sz)] (storeL 0 0 (cs.map .v) []) (G ++ Fo))) : Calls P f args w R := by
 subst hN; subst hrs
 rw [listLen_eq] at hsz
 subst hsz
 exact calls_sx hf hb (mkEnvPG P w fn.ntmps g G) rfl rfl hti (l.map .v ++ [.p 0 0]) 1 [(0, ty, cs.length)] (storeL 0 0 (cs.map .v) []) (G ++ Fo) (A := fun _ => g) (by simp [ha, show (SV.den (fun _ => g) ∘ SV.v) = id from rfl, SV.den, ptr])
   (fun s hs => by
     rcases List.mem_append.1 hs with hs | hs
     · obtain ⟨u, _, rfl⟩ := List.mem_map.1 hs; trivial
     · obtain rfl := List.mem_singleton.1 hs; exact Nat.zero_lt_one) (by simpa using Nat.le_of_ble_eq_true hl) (WD.initPG P w _ _ _ _ hg hF hoff ho) hv
end
theorem map_erase {α β : Type} (f : α → β) : ∀ (l : List α) (j : Nat), (l.eraseIdx j).map f = (l.map f).eraseIdx j
 | [], _ => rfl
 | x :: r, 0 => rfl
 | x :: r, j + 1 => by simp [map_erase f r j]
theorem small1 {n k o : Nat} (h : Nat.blt k n = true) : ∀ x ∈ [(k, o)], x.1 < n := fun x hx => by
 obtain rfl := List.mem_singleton.1 hx
 simpa using h
def adel {β : Type} : List (Int × β) → Int → List (Int × β)
 | [], _ => []
 | (k, u) :: r, x => if k = x then r else (k, u) :: adel r x
theorem adel_some {β : Type} : ∀ {ps : List (Int × β)} {x : Int} {j : Nat} {u : β}, aidx ps x = some (j, u) → adel ps x = ps.eraseIdx j
 | [], x, j, u, h => by simp [aidx] at h
 | (k, q) :: r, x, j, u, h => by
   simp only [aidx] at h
   by_cases e : k = x
   · simp [e] at h
     obtain ⟨rfl, rfl⟩ := h
     simp [adel, e]
   · simp only [e, if_false, Option.map_eq_some_iff, Prod.mk.injEq] at h
     obtain ⟨p, h1, rfl, rfl⟩ := h
     simp [adel, e, adel_some (j := p.1) (u := p.2) h1]
theorem adel_none {β : Type} : ∀ {ps : List (Int × β)} {x : Int}, aidx ps x = none → adel ps x = ps
 | [], x, _ => rfl
 | (k, q) :: r, x, h => by
   simp only [aidx] at h
   by_cases e : k = x
   · simp [e] at h
   · simp only [e, if_false, Option.map_eq_none_iff] at h
     simp [adel, e, adel_none h]
section
variable {E : Env} {ti : Nat → TI} {A : Nat → Nat} {T : List (Nat × SV)} {n c : Nat} {B : List (Nat × TypeId × Nat)} {M Ms : List ((Nat × Nat) × SV)} {F Fs : List Fct} {o : Oper} {next : St → Prop} {a : Act} {w w' : World}
theorem stop_callPGc (R : Value → List Value → List Fct → Prop) (ix : List Nat) {G : List Fct} {k : Call} {fo : Operand} {g : FuncId} {l : List SV} {d kb ty sz : Nat} {cs : List Value} (hc : callable E.P g = true)
   (hop : o.op = .call k) (hk : k.callee = .value fo) (hf : evalO T fo = some (.f g [(kb, 0)])) (ha : evalOs T k.args.toList = some l) (hd : Dst E o d) (hB : lookBT B kb = some (ty, sz)) (hM : loadN M kb 0 sz = some cs) (hG : FK F ix G) (hok : grantOk G)
   (hcall : ∀ A w ga, ga = A kb → WD E A n B M F w → Blk w ga ty cs → Calls E.P g ((l.map (SV.den A)) ++ [Value.pointer (some ⟨ga, 0, none⟩)]).toArray w (RetPG w ga ty sz G R))
   (hnext : ∀ v cs L, R v cs L → storeK kb 0 (cs.map .v) M fun M' => next (.mk ((d, .v v) :: T) n (c + 1) B M' (L ++ dropAt ix 0 F))) :
   OpW (opStop E o next T n c B M F) := by
 refine ⟨fun A a w hW hT => ?_⟩
 unfold Oper.wp
 rw [call_enter hT hc hop hk hf ha, Oper.upon_enter]
 refine (hcall A w (A kb) rfl hW (hW.blk (lookBT_mem hB) hM).1).mono ?_
 rintro e w' ⟨v, cs', L, rfl, he, hb, hl, hL, hoff, hR⟩
 have hn := hnext v cs' L hR
 rw [storeK_eq] at hn
 refine ⟨_, ⟨_, hW.callPG (lookBT_mem hB) hG hok he hb hl hL, ?_⟩, hn⟩
 rw [hd.1]
 exact (hT.step w').put (v := .v v) hd.lt trivial
theorem lookup_run {β : Type} {venc : β → Value} (hW : WD E A n B M F w) (hT : TD E A T n c a w) (k1 : Nat) {t kt et : TypeId} {x y : Operand} {r : Nat} {q : Int} {ps : List (Int × β)} {z : Value} {qk : IntKind}
   (hop : o.op = .lookup t x y false) (hx : evalO T x = some (.v (.map (some r)))) (hy : evalO T y = some (.v (.int .i64 q))) (hF : F[k1]? = some (fMap r venc ps))
   (ht : E.P.underlying t = some (.map kt et)) (hkt : E.P.underlying kt = some (.int qk)) (hz : (E.P.info? et).bind (·.zero) = some z) :
   (execOp a.eval o).run E.P w = .ok (.value (match aget ps q with | some v => venc v | none => z)) w := by
 obtain ⟨es, clock, h1, h2⟩ := (hW.nth k1 hF).1
 have hx' := (evalO_sound hT hx).1
 have hy' := (evalO_sound hT hy).1
 simp only [SV.den] at hx' hy'
 rw [aget_idx]
 simp only [execOp, hop, hx', hy', Instr.lookup, Sem.run_bind, underlying, run_program, Result.andThen_ok, ht, Sem.run_pure, run_getObj_map' h1, run_checkKey_int hkt, run_findKey_int hkt venc q es ps h2]
 cases aidx ps q with
 | none =>
   cases hi : E.P.info? et with
   | none => rw [hi] at hz; simp at hz
   | some i =>
     rw [hi] at hz
     simp at hz
     simp [zeroValue, typeInfo, hi, hz]
 | some p => simp
theorem d_lookup {β : Type} {venc : β → Value} (k1 : Nat) {t kt et : TypeId} {x y : Operand} {r : Nat} {q : Int} {ps : List (Int × β)} {d : Nat} {z : Value} {qk : IntKind}
   (hop : o.op = .lookup t x y false) (hx : evalO T x = some (.v (.map (some r)))) (hy : evalO T y = some (.v (.int .i64 q))) (hF : F[k1]? = some (fMap r venc ps)) (hd : Dst E o d)
   (ht : E.P.underlying t = some (.map kt et)) (hkt : E.P.underlying kt = some (.int qk)) (hz : (E.P.info? et).bind (·.zero) = some z) (rv : Value) (hrv : (match aget ps q with | some v => venc v | none => z) = rv)
   (hnext : next (.mk ((d, .v rv) :: T) n (c + 1) B M F)) : OpW (opD E o Ms Fs next T n c B M F) := by
 subst hrv
 refine ⟨opD0.up fun hkf A a w hW hT => ?_⟩
 refine upon_of_value (lookup_run hW hT k1 hop hx hy hF ht hkt hz) ?_
 rw [hd.1]
 exact ⟨_, _, F, hW, fun w2 => (hT.step w2).put (v := .v _) hd.lt trivial, hkf, hnext⟩
theorem mapset_run {β : Type} {venc : β → Value} (hW : WD E A n B M F w) (hT : TD E A T n c a w) (k1 : Nat) (v : β) {t kt et : TypeId} {x y z : Operand} {r : Nat} {q : Int} {ps : List (Int × β)} {qk : IntKind} {s : SV}
   (hop : o.op = .mapUpdate t x y z) (hx : evalO T x = some (.v (.map (some r)))) (hy : evalO T y = some (.v (.int .i64 q))) (hz : evalO T z = some s) (hs : ∀ A, s.den A = venc v) (hF : F[k1]? = some (fMap r venc ps))
   (ht : E.P.underlying t = some (.map kt et)) (hkt : E.P.underlying kt = some (.int qk)) :
   ∃ ob, (execOp a.eval o).run E.P w = .ok .skip { w with heap := w.heap.setIfInBounds r ob } ∧ mapIs r venc (aset ps q v) { w with heap := w.heap.setIfInBounds r ob } := by
 obtain ⟨es, clock, h1, h2⟩ := (hW.nth k1 hF).1
 have hx' := (evalO_sound hT hx).1
 have hy' := (evalO_sound hT hy).1
 have hz' := (evalO_sound hT hz).1.trans (hs A)
 simp only [SV.den] at hx' hy'
 have hlt : r < w.heap.size := (Array.getElem?_eq_some_iff.1 h1).1
 cases hi : aidx ps q with
 | none =>
   refine ⟨.map (es.push { key := .int .i64 q, val := venc v, born := clock }) (clock + 1), ?_, ?_⟩
   · simp only [execOp, hop, hx', hy', hz', Instr.mapUpdate, Sem.run_bind, underlying, run_program, Result.andThen_ok, ht, Sem.run_pure, run_getObj_map' h1, run_checkKey_int hkt, run_findKey_int hkt venc q es ps h2, hi, Option.map_none, run_setObj_map' h1]
   · refine ⟨es.push { key := .int .i64 q, val := venc v, born := clock }, clock + 1, by simp [hlt], ?_⟩
     rw [aset_none v hi]
     simp only [prs, Array.toList_push, List.map_append, kv] at h2 ⊢
     rw [h2]; rfl
 | some p =>
   obtain ⟨j, u⟩ := p
   obtain ⟨g1, g2⟩ := aset_some v hi
   have hkey : (es[j]?).map (·.key) = some (.int .i64 q) := by
     have := congrArg (fun l => l[j]?) h2
     simp only [prs, kv, List.getElem?_map, g2, Option.map_some, Array.getElem?_toList] at this
     cases he : es[j]? with
     | none => rw [he] at this; simp at this
     | some e => rw [he] at this; simp at this; simp [this.1]
   refine ⟨.map (es.modify j fun e => { e with key := .int .i64 q, val := venc v }) clock, ?_, ?_⟩
   · have hks : (Instr.keyThatStays (.int .i64 q) (.int .i64 q)).run E.P w = .ok (.int .i64 q) w := by
       have hsb : Instr.sameBits 10000 (.int .i64 q) (.int .i64 q) = true := by
         show Instr.sameBits (9999 + 1) (.int .i64 q) (.int .i64 q) = true
         simp [Instr.sameBits]
       simp [Instr.keyThatStays, hsb]
     simp only [execOp, hop, hx', hy', hz', Instr.mapUpdate, Sem.run_bind, underlying, run_program, Result.andThen_ok, ht, Sem.run_pure, run_getObj_map' h1, run_checkKey_int hkt, run_findKey_int hkt venc q es ps h2, hi, Option.map_some, hkey, Option.getD_some, hks, run_setObj_map' h1]
   · refine ⟨es.modify j fun e => { e with key := .int .i64 q, val := venc v }, clock, by simp [hlt], ?_⟩
     rw [g1]
     simp only [prs, kv, Array.toList_modify, List.map_set] at h2 ⊢
     rw [← h2]
     apply List.ext_getElem?
     intro k
     simp only [List.getElem?_map, List.getElem?_modify, List.getElem?_set]
     by_cases e : j = k
     · subst e
       simp only [if_true]
       cases he : es.toList[j]? with
       | none =>
         have : es[j]? = none := by simpa using he
         rw [this] at hkey; simp at hkey
       | some x =>
         have hl : j < es.size := by simpa using (List.getElem?_eq_some_iff.1 he).1
         simp [hl]
     · simp [e]
theorem d_mapset {β : Type} {venc : β → Value} (k1 : Nat) (v : β) {t kt et : TypeId} {x y z : Operand} {r : Nat} {q : Int} {ps : List (Int × β)} {qk : IntKind} {s : SV}
   (hop : o.op = .mapUpdate t x y z) (hx : evalO T x = some (.v (.map (some r)))) (hy : evalO T y = some (.v (.int .i64 q))) (hz : evalO T z = some s) (hs : ∀ A, s.den A = venc v) (hF : F[k1]? = some (fMap r venc ps)) (hd : o.dst = none)
   (ht : E.P.underlying t = some (.map kt et)) (hkt : E.P.underlying kt = some (.int qk)) (qs : List (Int × β)) (hqs : aset ps q v = qs) (hkeep : keepF Fs F → keepF Fs (F.eraseIdx k1))
   (hnext : next (.mk T n (c + 1) B M (fMap r venc qs :: F.eraseIdx k1))) : OpW (opD E o Ms Fs next T n c B M F) := by
 subst hqs
 refine ⟨fun hm hf A a w hW hT => ?_⟩
 obtain ⟨ob, h3, h4⟩ := mapset_run hW hT k1 v hop hx hy hz hs hF ht hkt
 refine upon_of_skip h3 ?_
 rw [hd]
 exact ⟨A, _, n, _, B, M, _, fun _ _ => rfl, Nat.le_refl _, fun _ h => h, hm, fun f hfs => List.mem_cons_of_mem _ (hkeep hf f hfs), hW.turnMap hF ob h4, fun w2 => hT.step w2, hnext⟩
theorem stop_delete {β : Type} {venc : β → Value} (k1 : Nat) {k : Call} {t tk kt et : TypeId} {x y : Operand} {r : Nat} {q : Int} {ps : List (Int × β)} {qk : IntKind}
   (hop : o.op = .call k) (hk : k.callee = .builtin .delete) (ha : k.args.toList = [x, y]) (hty : k.argTypes.toList = [t, tk])
   (hx : evalO T x = some (.v (.map (some r)))) (hy : evalO T y = some (.v (.int .i64 q))) (hF : F[k1]? = some (fMap r venc ps)) (hd : o.dst = none)
   (ht : E.P.underlying t = some (.map kt et)) (hkt : E.P.underlying kt = some (.int qk)) (qs : List (Int × β)) (hqs : adel ps q = qs)
   (hnext : next (.mk T n (c + 1) B M (fMap r venc qs :: F.eraseIdx k1))) : OpW (opStop E o next T n c B M F) := by
 subst hqs
 refine ⟨fun A a w hW hT => ?_⟩
 obtain ⟨es, clock, h1, h2⟩ := (hW.nth k1 hF).1
 have hx' := (evalO_sound hT hx).1
 have hy' := (evalO_sound hT hy).1
 simp only [SV.den] at hx' hy'
 have hlt : r < w.heap.size := (Array.getElem?_eq_some_iff.1 h1).1
 have hargs : k.args = #[x, y] := by apply Array.ext'; simpa using ha
 have htys : k.argTypes = #[t, tk] := by apply Array.ext'; simpa using hty
 have key : ∃ ob, (Builtin.delete_ #[t, tk] o.type #[.map (some r), .int .i64 q]).run E.P w = .ok (.tuple #[]) { w with heap := w.heap.setIfInBounds r ob } ∧ mapIs r venc (adel ps q) { w with heap := w.heap.setIfInBounds r ob } := by
   cases hi : aidx ps q with
   | none =>
     refine ⟨.map es clock, ?_, ⟨es, clock, by simp [hlt], by rw [adel_none hi]; exact h2⟩⟩
     simp [Builtin.delete_, underlying, ht, run_getObj_map' h1, run_checkKey_int hkt, run_findKey_int hkt venc q es ps h2, hi, run_setObj_map' h1]
   | some p =>
     obtain ⟨j, u⟩ := p
     refine ⟨.map (es.eraseIdxIfInBounds j) clock, ?_, ⟨es.eraseIdxIfInBounds j, clock, by simp [hlt], ?_⟩⟩
     · simp [Builtin.delete_, underlying, ht, run_getObj_map' h1, run_checkKey_int hkt, run_findKey_int hkt venc q es ps h2, hi, run_setObj_map' h1]
     · rw [adel_some hi]
       simp only [prs, kv] at h2 ⊢
       rw [Array.toList_eraseIdxIfInBounds, map_erase, h2, map_erase]
 obtain ⟨ob, h3, h4⟩ := key
 have hr : (execOp a.eval o).run E.P w = .ok (.value (.tuple #[])) { w with heap := w.heap.setIfInBounds r ob } := by
   simp only [execOp, hop, resolve, hk, hargs, htys, Sem.run_bind, Sem.run_pure, Result.andThen_ok, invoke, builtin, List.map_toArray, List.map_cons, List.map_nil, hx', hy', h3]
 refine upon_of_value hr ?_
 rw [hd]
 exact ⟨_, ⟨_, hW.turnMap hF ob h4, hT.step _⟩, hnext⟩
theorem stop_lenM {β : Type} {venc : β → Value} (k1 : Nat) {k : Call} {t kt et : TypeId} {x : Operand} {r : Nat} {ps : List (Int × β)} {d : Nat}
   (hop : o.op = .call k) (hk : k.callee = .builtin .len) (ha : k.args.toList = [x]) (hty : k.argTypes.toList = [t])
   (hx : evalO T x = some (.v (.map (some r)))) (hF : F[k1]? = some (fMap r venc ps)) (hd : Dst E o d) (ht : E.P.underlying t = some (.map kt et))
   (hnext : next (.mk ((d, .v (.int .i64 (ps.length : Int))) :: T) n c B M F)) : OpW (opStop E o next T n c B M F) := by
 refine ⟨fun A a w hW hT => ?_⟩
 obtain ⟨es, clock, h1, h2⟩ := (hW.nth k1 hF).1
 have hx' := (evalO_sound hT hx).1
 simp only [SV.den] at hx'
 have hargs : k.args = #[x] := by apply Array.ext'; simpa using ha
 have htys : k.argTypes = #[t] := by apply Array.ext'; simpa using hty
 have hl : es.size = ps.length := by have := congrArg List.length h2; simpa [prs, kv] using this
 have hr : (execOp a.eval o).run E.P w = .ok (.value (.int .i64 (ps.length : Int))) w := by
   simp [execOp, hop, resolve, hk, hargs, htys, invoke, builtin, hx', Builtin.len_, underlying, ht, run_getObj_map' h1, hl, goInt]
 refine upon_of_value hr ?_
 rw [hd.1]
 exact ⟨_, ⟨_, hW, hT.put (v := .v (.int .i64 (ps.length : Int))) hd.lt trivial⟩, hnext⟩
end
end Go.Sx
