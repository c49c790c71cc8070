/- FnExactStepThread: texts that its proof stands on, part 6. -/
import Derived.Test.YtklclbcckjhdpaaGreatQExactStepThreade
namespace Go.Proofs.YtklclbcckjhdpaaGreat
open Go Go.Sx Go.RowKit
set_option maxRecDepth 100000 in
theorem szOpS_c (i : Sl) (xs : List Op) (left : Int) (w : World) (h : At w [slo i cOp 3 xs]) (h0 : -1 ≤ left) (h1 : left ≤ 1048576) :
   Calls Tryz.prog 114 #[i.val xs.length, .int .i64 left] w (Ret w fun v L => v = .int .i64 (szN xs.length left) ∧ L = []) := by
 obtain ⟨⟨⟨_, b1, b2, _⟩, _⟩, _⟩ := h
 unfold maxLen at b2
 have e : IntKind.i64.wrap (left - (xs.length : Int)) = left - xs.length := e_wrap (by omega) (by omega)
 refine calls2 Tryz.func114 rfl tabOk w _ rfl _ rfl [] trivial trivial _ _ (by decide) ?_
 refine CaseB.mk (fun h => ?_) (fun h => ?_)
 · rw [e] at h
   have h2 : left - (xs.length : Int) < 0 := by simpa using h
   exact ret0 ⟨by rw [szN, if_pos h2], rfl⟩ (fun _ => rfl)
 · rw [e] at h
   have h2 : ¬ left - (xs.length : Int) < 0 := by simpa using h
   refine ret0 ⟨by rw [szN, if_neg h2], rfl⟩ (fun _ => ?_)
   simp only [resV, SV.den, e]
set_option maxRecDepth 100000 in
theorem toOp_c (x : Op) (w : World) : Calls Tryz.prog 189 #[.agg (cOp x).toArray] w (Ret w fun v L => v = .agg (cOp x).toArray ∧ L = []) := by
 refine calls1 Tryz.func189 rfl tabOk w _ rfl _ rfl [] trivial trivial _ (by decide) ?_
 exact ret0 ⟨rfl, rfl⟩ (fun _ => rfl)
set_option maxRecDepth 100000 in
theorem toOpS_c (i : Sl) (xs : List Op) (w : World) (h : At w [slo i cOp 3 xs]) (hb : xs.length ≤ 1048576) :
   Calls Tryz.prog 132 #[i.val xs.length] w (Ret w fun v L => ∃ y : Sl, v = y.val xs.length ∧ L = [own y 57 cOp 3 xs]) := by
 refine calls1 Tryz.func132 rfl tabOk w _ rfl _ rfl _ h ⟨rfl, rfl, trivial⟩ _ (by decide) ?_
 refine stop_make encOp Op0 tabOk rfl rfl rfl rfl rfl (by decide) ⟨rfl, rfl⟩ xs.length rfl z47 z47 (fun y => ?_)
 refine LoopW.mk ⟨{ k : Nat // k ≤ xs.length },
   fun k => .mk [(0, .v (i.val xs.length)), (3, .v (y.val (xs.take k.1 ++ List.replicate (xs.length - k.1) Op0).length)), (4, .v (.int .i64 (k.1 : Int)))] 0 0 [] [] [own y 57 cOp 3 (xs.take k.1 ++ List.replicate (xs.length - k.1) Op0), slo i cOp 3 xs],
   fun k => xs.length - k.1, ⟨0, Nat.zero_le _⟩, ?_, ?_⟩
 · exact weak_mk [0, 1] zw8 zw0 zw8 zw5 zw17 rfl rfl
 · rintro ⟨k, hk⟩
   refine CaseB.mk (fun h => ?_) (fun h => ?_)
   · have hlt : k < xs.length := by simpa using h
     have hT : (xs.take k ++ List.replicate (xs.length - k) Op0).set k xs[k] = xs.take (k + 1) ++ List.replicate (xs.length - (k + 1)) Op0 := by
       rw [List.set_append_right _ _ z106, List.take_succ_eq_append_getElem hlt, show k - (List.take k xs).length = 0 by simp; omega, show xs.length - k = (xs.length - (k + 1)) + 1 by omega, List.replicate_succ, List.append_assoc]
       rfl
     refine stop_idx encOp tabOk rfl rfl rfl rfl rfl ⟨rfl, rfl⟩ z40 k rfl z47 (fun ad => ?_)
     refine stop_call _ cl189 rfl rfl rfl rfl ⟨rfl, rfl⟩ (fun A w hW => toOp_c _ w) ?_
     rintro v L ⟨rfl, rfl⟩
     refine stop_idxW encOp 0 tabOk rfl rfl rfl rfl rfl ⟨rfl, rfl⟩ rfl z90 k rfl z47 (fun g hg => ?_)
     refine stop_storeW encOp 0 tabOk rfl rfl rfl rfl rfl rfl rfl rfl hg k 0 (xs[k]) rfl z47 rfl (cOp xs[k]) (fun _ => rfl) rfl ?_
     have hw := e_succ k _ hlt (by omega)
     refine ⟨⟨k + 1, by omega⟩, ?_, by simp; omega⟩
     exact weak_mk [0, 1] zw6 zw0 zw6 zw5 zw13 rfl rfl
   · have hge : xs.length ≤ k := by simpa using h
     have hT : xs.take k ++ List.replicate (xs.length - k) Op0 = xs := by rw [List.take_of_length_le hge, show xs.length - k = 0 by omega]; simp
     exact retw [0] ⟨y, rfl, rfl⟩ z147 rfl ⟨rfl, trivial⟩ (fun _ => z82)
set_option maxRecDepth 100000 in
theorem eqOp_c (x y : Op) (w : World) : Calls Tryz.prog 27 #[.agg (cOp x).toArray, .agg (cOp y).toArray] w (Ret w fun v L => v = .bool (decide (x = y)) ∧ L = []) := by
 have hx : ∀ {a b : Op}, a = b ↔ a.kind = b.kind ∧ a.on = b.on ∧ a.arg = b.arg := fun {a b} => ⟨fun h => by subst h; exact ⟨rfl, rfl, rfl⟩, fun h => by cases a; cases b; simp_all⟩
 refine calls2 Tryz.func27 rfl tabOk w _ rfl _ rfl [] trivial trivial _ _ (by decide) ?_
 refine CaseB.mk (fun h0 => ?_) (fun h0 => ?_)
 · have g : ¬ x = y := fun e => by subst e; simp at h0
   exact ret0 ⟨by simp [g], rfl⟩ (fun _ => rfl)
 refine CaseB.mk (fun h1 => ?_) (fun h1 => ?_)
 · have g : ¬ x = y := fun e => by subst e; simp at h1
   exact ret0 ⟨by simp [g], rfl⟩ (fun _ => rfl)
 refine CaseB.mk (fun h2 => ?_) (fun h2 => ?_)
 · have g : ¬ x = y := fun e => by subst e; simp at h2
   exact ret0 ⟨by simp [g], rfl⟩ (fun _ => rfl)
 · have g : x = y := hx.2 ⟨by simpa using h0, by simpa using h1, by simpa using h2⟩
   exact ret0 ⟨by simp [g], rfl⟩ (fun _ => rfl)
set_option maxRecDepth 100000 in
theorem eqOpS_c (i j : Sl) (xs ys : List Op) (w : World) (h : At w [slo i cOp 3 xs, slo j cOp 3 ys]) (hb : xs.length ≤ 4294967296) (hb2 : ys.length ≤ 4294967296) :
   Calls Tryz.prog 151 #[i.val xs.length, j.val ys.length] w (Ret w fun v L => v = .bool (decide (xs = ys)) ∧ L = []) := by
 refine calls2 Tryz.func151 rfl tabOk w _ rfl _ rfl _ h ⟨rfl, rfl, rfl, rfl, trivial⟩ _ _ (by decide) ?_
 refine CaseB.mk (fun h => ?_) (fun h => ?_)
 · have hne : xs ≠ ys := by rintro rfl; simp at h
   refine ret0 ⟨?_, rfl⟩ (fun _ => rfl)
   simp [hne]
 · have hl : xs.length = ys.length := by simp at h; omega
   refine LoopW.mk ⟨{ k : Nat // k ≤ xs.length ∧ xs.take k = ys.take k },
     fun p => .mk [(0, .v (i.val xs.length)), (1, .v (j.val ys.length)), (5, .v (.int .i64 p.1))] 0 0 [] [] [slo i cOp 3 xs, slo j cOp 3 ys],
     fun p => xs.length - p.1, ⟨0, Nat.zero_le _, rfl⟩, ?_, ?_⟩
   · exact weak_mk [0, 1] zw2 zw0 zw2 zw5 zw4 rfl rfl
   · rintro ⟨k, hk, he⟩
     refine CaseB.mk (fun h => ?_) (fun h => ?_)
     · have hlt : k < xs.length := by simpa using h
       have hlt2 : k < ys.length := by omega
       obtain ⟨q1, q2⟩ := e_take he hlt hlt2
       refine draw_start tabOk z107 z107 z107 200 [] [0, 1] [_, _] trivial trivial ⟨rfl, rfl, trivial⟩ rfl ?_
       refine d_idx (ti := tiOf tab) encOp tabOk rfl rfl rfl rfl rfl ⟨rfl, rfl⟩ z40 k rfl z47 (fun ad => ?_)
       refine d_idx (ti := tiOf tab) encOp tabOk rfl rfl rfl rfl rfl ⟨rfl, rfl⟩ z40 k rfl z47 (fun ad2 => ?_)
       refine d_call _ cl27 rfl rfl rfl rfl ⟨rfl, rfl⟩ (fun A w hW => eqOp_c _ _ w) ?_
       rintro v L ⟨rfl, rfl⟩
       refine CaseB.mk (fun h => ?_) (fun h => ?_)
       · have hne := q2 z101
         refine ret0 ⟨?_, rfl⟩ (fun _ => rfl)
         simp [hne]
       · have heq := q1 z101
         have hw := e_succ k _ hlt (by omega)
         refine ⟨⟨k + 1, by omega, heq⟩, ?_, by simp; omega⟩
         exact weak_mk [0, 1] zw1 zw0 zw1 zw5 zw3 rfl rfl
     · have hge : xs.length ≤ k := by simpa using h
       have heq : xs = ys := by rw [List.take_of_length_le hge, List.take_of_length_le (by omega)] at he; exact he
       refine ret0 ⟨?_, rfl⟩ (fun _ => rfl)
       simp [heq]
def markOp (k : Nat) : Op := ⟨((k : Nat) : Int), ((k + 1 : Nat) : Int), ((k + 2 : Nat) : Int)⟩
def marksOp (k : Nat) : Nat → List Op
 | 0 => []
 | n + 1 => markOp k :: marksOp (k + 3) n
theorem marksOp_len (k n : Nat) : (marksOp k n).length = n := by
 induction n generalizing k with
 | zero => rfl
 | succ n ih => simp [marksOp, ih]
theorem marksOp_get (k n j : Nat) (hj : j < n) : (marksOp k n)[j]? = some (markOp (k + 3 * j)) := by
 induction n generalizing k j with
 | zero => omega
 | succ n ih =>
   cases j with
   | zero => simp [marksOp]
   | succ j => simp only [marksOp, List.getElem?_cons_succ]; rw [ih (k + 3) j (by omega)]; congr 2; omega
theorem marksOp_set (xs : List Op) (k j : Nat) (hj : j < xs.length) : (marksOp k j ++ xs.drop j).set j (markOp (k + 3 * j)) = marksOp k (j + 1) ++ xs.drop (j + 1) := by
 have h1 : marksOp k (j + 1) = marksOp k j ++ [markOp (k + 3 * j)] := by
   apply List.ext_getElem?
   intro q
   rcases Nat.lt_or_ge q j with hq | hq
   · rw [List.getElem?_append_left (by rw [marksOp_len]; exact hq), marksOp_get _ _ _ hq, marksOp_get _ _ _ (by omega)]
   · rcases Nat.eq_or_lt_of_le hq with rfl | hq
     · rw [marksOp_get _ _ _ (by omega), List.getElem?_append_right (by rw [marksOp_len]; exact Nat.le_refl _), marksOp_len]; simp
     · rw [List.getElem?_eq_none (by rw [marksOp_len]; omega), List.getElem?_eq_none (by simp [marksOp_len]; omega)]
 rw [List.set_append_right _ _ (by rw [marksOp_len]; exact Nat.le_refl _), marksOp_len, Nat.sub_self, List.drop_eq_getElem_cons hj, h1, List.append_assoc]
 rfl
set_option maxHeartbeats 4000000 in
set_option maxRecDepth 100000 in
theorem markOpS_c (i : Sl) (xs : List Op) (k : Nat) (w : World) (h : AtG w [own i 57 cOp 3 xs] []) (hb : xs.length ≤ 1048576) (hk : k ≤ 1152921504606846976) :
   Calls Tryz.prog 152 #[i.val xs.length, .int .i64 (k : Int)] w (RetG w [own i 57 cOp 3 xs] fun v L => v = .int .i64 ((k + 3 * xs.length : Nat) : Int) ∧ L = [own i 57 cOp 3 (marksOp k xs.length)]) := by
 refine callsG_fn Tryz.func152 rfl tabOk w _ rfl _ rfl _ _ h trivial _ _ rfl rfl ?_
 refine LoopW.mk ⟨{ j : Nat // j ≤ xs.length },
   fun j => .mk [(0, .v (i.val (marksOp k j.1 ++ xs.drop j.1).length)), (1, .v (.int .i64 ((k + 3 * j.1 : Nat) : Int))), (5, .v (.int .i64 (j.1 : Int)))] 0 0 [] [] [own i 57 cOp 3 (marksOp k j.1 ++ xs.drop j.1)],
   fun j => xs.length - j.1, ⟨0, Nat.zero_le _⟩, ?_, ?_⟩
 · refine weak_mk [0] ?_ ?_ ?_ ?_ ?_ rfl rfl
   · exact zw33
   · exact zw0
   · exact zw33
   · exact zw5
   · repeat (first | exact trivial | refine ⟨.inl ⟨_, rfl, (by first | rfl | ((simp [marksOp])))⟩, ?_⟩ | refine ⟨.inr z142, ?_⟩)
 · rintro ⟨j, hj⟩
   have hl : (marksOp k j ++ xs.drop j).length = xs.length := by rw [List.length_append, marksOp_len, List.length_drop]; omega
   refine CaseB.mk (fun h => ?_) (fun h => ?_)
   · have hlt : j < xs.length := by simp only [hl] at h; simpa using h
     have hT := marksOp_set xs k j hlt
     have hw := e_succ j _ hlt (by omega)
     have hl2 := Nat.lt_of_lt_of_eq hlt hl.symm
     generalize hq : (marksOp k j ++ xs.drop j) = Q at hl hT hl2
     have hw0 : IntKind.i64.wrap (((k + 3 * j : Nat) : Int) + 1) = ((k + 3 * j + 1 : Nat) : Int) := e_succ (k + 3 * j) (k + 3 * xs.length) (by omega) (by omega)
     have hw1 : IntKind.i64.wrap (((k + 3 * j + 1 : Nat) : Int) + 1) = ((k + 3 * j + 2 : Nat) : Int) := e_succ (k + 3 * j + 1) (k + 3 * xs.length) (by omega) (by omega)
     have hw2 : IntKind.i64.wrap (((k + 3 * j + 2 : Nat) : Int) + 1) = ((k + 3 * j + 3 : Nat) : Int) := e_succ (k + 3 * j + 2) (k + 3 * xs.length) (by omega) (by omega)
     have hwf : IntKind.i64.wrap (IntKind.i64.wrap (IntKind.i64.wrap (((k + 3 * j : Nat) : Int) + 1) + 1) + 1) = ((k + 3 * (j + 1) : Nat) : Int) := by rw [hw0, hw1, hw2]; congr 1
     refine stop_idxW encOp 0 tabOk rfl rfl rfl rfl rfl ⟨rfl, rfl⟩ rfl z90 j rfl hl2 (fun g0 hg0 => ?_)
     refine stop_fldW tabOk rfl rfl rfl rfl ⟨rfl, rfl⟩ ?_
     refine stop_storeW encOp 0 tabOk rfl rfl rfl rfl rfl rfl rfl rfl hg0 j 0 (⟨((k + 3 * j : Nat) : Int), Q[j].on, Q[j].arg⟩ : Op) rfl hl2 rfl [.int .i64 ((k + 3 * j : Nat) : Int)] (fun _ => rfl) (by simp [cOp]) ?_
     refine stop_idxW encOp 0 tabOk rfl rfl rfl rfl rfl ⟨rfl, rfl⟩ rfl z90 j rfl z98 (fun g1 hg1 => ?_)
     refine stop_fldW tabOk rfl rfl rfl rfl ⟨rfl, rfl⟩ ?_
     refine stop_storeW encOp 0 tabOk rfl rfl rfl rfl rfl rfl rfl rfl hg1 j 1 (⟨((k + 3 * j : Nat) : Int), ((k + 3 * j + 1 : Nat) : Int), Q[j].arg⟩ : Op) rfl z98 rfl [.int .i64 ((k + 3 * j + 1 : Nat) : Int)] (fun _ => by simp only [List.map_cons, List.map_nil, SV.den, hw0]) (by simp [cOp]) ?_
     refine stop_idxW encOp 0 tabOk rfl rfl rfl rfl rfl ⟨rfl, rfl⟩ rfl z90 j rfl z98 (fun g2 hg2 => ?_)
     refine stop_fldW tabOk rfl rfl rfl rfl ⟨rfl, rfl⟩ ?_
     refine stop_storeW encOp 0 tabOk rfl rfl rfl rfl rfl rfl rfl rfl hg2 j 2 (⟨((k + 3 * j : Nat) : Int), ((k + 3 * j + 1 : Nat) : Int), ((k + 3 * j + 2 : Nat) : Int)⟩ : Op) rfl z98 rfl [.int .i64 ((k + 3 * j + 2 : Nat) : Int)] (fun _ => by simp only [List.map_cons, List.map_nil, SV.den, hw0, hw1]) (by simp [cOp]) ?_
     have hT2 : (((Q.set j (⟨((k + 3 * j : Nat) : Int), Q[j].on, Q[j].arg⟩ : Op)).set j (⟨((k + 3 * j : Nat) : Int), ((k + 3 * j + 1 : Nat) : Int), Q[j].arg⟩ : Op)).set j (⟨((k + 3 * j : Nat) : Int), ((k + 3 * j + 1 : Nat) : Int), ((k + 3 * j + 2 : Nat) : Int)⟩ : Op)) = marksOp k (j + 1) ++ xs.drop (j + 1) := by simp only [List.set_set]; exact hT
     refine ⟨⟨j + 1, by omega⟩, ?_, by simp; omega⟩
     exact weak_mk [0] zw10 zw0 zw10 zw5 zw22 rfl rfl
   · have hge : xs.length ≤ j := by simp only [hl] at h; simpa using h
     have hje : j = xs.length := by omega
     have hT : marksOp k j ++ xs.drop j = marksOp k xs.length := by rw [hje]; simp
     exact retG [0] ⟨rfl, rfl⟩ z148 rfl ⟨rfl, trivial⟩ (fun _ => z60)
def OpS.small20 (m : List Op) : Prop := m.length ≤ 1048576
def szOpSM (m : List Op) (left : Int) : Int := szN m.length left
theorem szOpSM_gen (m : List Op) (l : Int) (hl : l ≤ 1048576) (h : ¬ szOpSM m l < 0) : OpS.small20 m ∧ szOpSM m l ≤ l := szN_gen hl h
set_option maxRecDepth 100000 in
theorem szOpSS_c (h : Sl) (xs : List OpSH) (left : Int) (w : World) (hh : At w [fR (threadsO h xs)]) (h0 : -1 ≤ left) (h1 : left ≤ 1048576) :
   Calls Tryz.prog 45 #[h.val xs.length, .int .i64 left] w (Ret w fun v L => v = .int .i64 (szAll szOpSM (xs.map (·.m)) left) ∧ L = []) := by
 have hrd := (Rd.ofR (nest_h (xs := xs))).p w hh.1.1
 obtain ⟨_, b1, b2, _⟩ := hrd
 unfold maxLen at b2
 have e : IntKind.i64.wrap (left - (xs.length : Int)) = left - xs.length := e_wrap (by omega) (by omega)
 refine calls2 Tryz.func45 rfl tabOk w _ rfl _ rfl _ hh ⟨rfl, rfl, trivial⟩ _ _ (by decide) ?_
 apply CaseB.mk <;> intro g
 · rw [e] at g
   have g2 : left - (xs.length : Int) < 0 := by simpa using g
   exact ret0 ⟨by simp [szAll, g2], rfl⟩ (fun _ => rfl)
 · rw [e] at g
   have g2 : ¬ left - (xs.length : Int) < 0 := by simpa using g
   refine LoopW.mk ⟨{ p : Nat × Int // p.1 ≤ xs.length ∧ szList szOpSM ((xs.map (·.m)).drop p.1) p.2 = szAll szOpSM (xs.map (·.m)) left ∧ -1 ≤ p.2 ∧ p.2 ≤ 1048576 },
     fun p => .mk [(0, .v (h.val xs.length)), (1, .v (.int .i64 p.1.2)), (5, .v (.int .i64 (p.1.1 : Int)))] 0 0 [] [] [fR (threadsO h xs)],
     fun p => xs.length - p.1.1, ⟨(0, left - xs.length), Nat.zero_le _, by simp [szAll, g2], by omega, by omega⟩, ?_, ?_⟩
   · exact weak_mk [0] zw12 zw0 zw12 zw5 zw26 rfl rfl
   · rintro ⟨⟨k, l⟩, hk, hl, hl0, hl1⟩
     simp only at hk hl hl0 hl1
     refine CaseB.mk (fun g3 => ?_) (fun g3 => ?_)
     · have hlt : k < xs.length := by simpa using g3
       rw [List.drop_eq_getElem_cons z99] at hl
       simp only [szList, List.getElem_map] at hl
       refine stop_idx encOpSH tabOk rfl rfl rfl rfl rfl ⟨rfl, rfl⟩ (rdVia 0 rfl (.ofR nest_h)) k rfl z47 (fun ad => ?_)
       refine stop_call _ cl114 rfl rfl rfl rfl ⟨rfl, rfl⟩ (fun A w hW => szOpS_c _ _ _ w ⟨hW.get 0 rfl (.ofR (threadsO_0 h xs k hlt)), trivial⟩ hl0 hl1) ?_
       rintro v L ⟨rfl, rfl⟩
       refine CaseB.mk (fun g4 => ?_) (fun g4 => ?_)
       · have q : szOpSM xs[k].m l < 0 := by unfold szOpSM; simpa using g4
         rw [if_pos q] at hl
         exact ret0 ⟨by rw [← hl], rfl⟩ (fun _ => rfl)
       · have q : ¬ szOpSM xs[k].m l < 0 := by unfold szOpSM; simpa using g4
         rw [if_neg q] at hl
         have q2 := (szOpSM_gen xs[k].m l hl1 q).2
         have hw := e_succ k _ hlt (by omega)
         refine ⟨⟨(k + 1, szOpSM xs[k].m l), hlt, hl, by omega, by omega⟩, ?_, by simp only; omega⟩
         exact weak_mk [0] zw1 zw0 zw1 zw5 zw3 rfl rfl
     · have hge : xs.length ≤ k := by simpa using g3
       rw [List.drop_eq_nil_of_le z97] at hl
       exact ret0 ⟨congrArg (Value.int .i64) hl, rfl⟩ (fun _ => rfl)
def OpSH0 : OpSH := ⟨[], ⟨none, 0⟩⟩
set_option maxRecDepth 100000 in
theorem toOpSS_c (h : Sl) (xs : List OpSH) (w : World) (hh : At w [fR (threadsO h xs)]) (hl : xs.length ≤ 1048576) (hb : ∀ x ∈ xs, OpS.small20 x.m) :
   Calls Tryz.prog 54 #[h.val xs.length] w (Ret w fun v L => ∃ (y : Sl) (ys : List OpSH), v = y.val ys.length ∧ ys.map (·.m) = xs.map (·.m) ∧ L = [fO (threadsO y ys)]) := by
 refine calls1 Tryz.func54 rfl tabOk w _ rfl _ rfl _ hh ⟨rfl, rfl, trivial⟩ _ (by decide) ?_
 refine stop_make encOpSH OpSH0 tabOk rfl rfl rfl rfl rfl (by decide) ⟨rfl, rfl⟩ xs.length rfl z47 z47 (fun y => ?_)
 refine LoopW.mk ⟨{ p : Nat × List OpSH // p.1 ≤ xs.length ∧ p.2.map (·.m) = (xs.map (·.m)).take p.1 },
   fun p => .mk [(0, .v (h.val xs.length)), (3, .v (y.val (p.1.2 ++ List.replicate (xs.length - p.1.1) OpSH0).length)), (4, .v (.int .i64 (p.1.1 : Int)))] 0 0 [] [] [own y 89 cOpSH 1 (p.1.2 ++ List.replicate (xs.length - p.1.1) OpSH0), fO (p.1.2.flatMap opSO), fR (threadsO h xs)],
   fun p => xs.length - p.1.1, ⟨(0, []), Nat.zero_le _, by simp⟩, ?_, ?_⟩
 · refine weak_shift (.joinO [] (Gs := []) trivial rfl (.refl _)) ?_
   exact weak_mk [1, 0, 2] zw8 zw0 zw8 zw5 zw17 rfl rfl
 · rintro ⟨⟨k, ys⟩, hk, hy⟩
   simp only at hk hy
   have hyl : ys.length = k := by have := congrArg List.length hy; simp at this; omega
   apply CaseB.mk <;> intro g
   · have hlt : k < xs.length := by simpa using g
     have hlt2 : k < (ys ++ List.replicate (xs.length - k) OpSH0).length := by simp; omega
     refine stop_idx encOpSH tabOk rfl rfl rfl rfl rfl ⟨rfl, rfl⟩ (rdVia 2 rfl (.ofR nest_h)) k rfl z47 (fun ad => ?_)
     refine stop_call _ cl132 rfl rfl rfl rfl ⟨rfl, rfl⟩ (fun A w hW => toOpS_c _ _ w ⟨hW.get 2 rfl (.ofR (threadsO_0 h xs k hlt)), trivial⟩ (hb _ (List.getElem_mem hlt))) ?_
     rintro v L ⟨y0, rfl, rfl⟩
     generalize hx : (⟨xs[k].m, y0⟩ : OpSH) = x
     have hxm : x.m = xs[k].m := by rw [← hx]
     have hT : (ys ++ List.replicate (xs.length - k) OpSH0).set k x = (ys ++ [x]) ++ List.replicate (xs.length - (k + 1)) OpSH0 := by
       rw [List.set_append_right _ _ (by omega), show k - ys.length = 0 by omega, show xs.length - k = (xs.length - (k + 1)) + 1 by omega, List.replicate_succ, List.append_assoc]
       rfl
     generalize hq : (ys ++ List.replicate (xs.length - k) OpSH0) = Q at hT hlt2
     refine stop_idxW encOpSH 1 tabOk rfl rfl rfl rfl rfl ⟨rfl, rfl⟩ rfl z90 k rfl hlt2 (fun g1 hg1 => ?_)
     refine stop_storeW encOpSH 1 tabOk rfl rfl rfl rfl rfl rfl rfl rfl hg1 k 0 x rfl hlt2 rfl (cOpSH x) (fun _ => by rw [← hx]; rfl) z76 ?_
     have hw := e_succ k _ hlt (by omega)
     refine ⟨⟨(k + 1, ys ++ [x]), hlt, by rw [List.map_append]; exact map_take_succ hlt hy hxm⟩, ?_, by simp only; omega⟩
     refine weak_shift (.joinO [1, 2] (Gs := [[_], _]) z138 rfl (G := (ys ++ [x]).flatMap opSO) (by subst hx; rw [List.flatMap_append]; exact (List.Perm.of_eq (by simp [opSO])).trans List.perm_append_comm)) ?_
     exact weak_mk [1, 0, 2] zw6 zw0 zw6 zw5 zw13 rfl rfl
   · have hge : xs.length ≤ k := by simpa using g
     have hT : ys ++ List.replicate (xs.length - k) OpSH0 = ys := by rw [show xs.length - k = 0 by omega]; simp
     simp only [hT]
     refine ret_shift (.joinO [0, 1] (Gs := [[_], _]) z138 rfl (G := threadsO y ys) (.of_eq (by simp [threadsO, nestO]))) ?_
     exact retw [0] ⟨y, ys, rfl, by rw [hy, List.take_of_length_le z97], rfl⟩ z146 rfl ⟨rfl, trivial⟩ (fun _ => rfl)
set_option maxRecDepth 100000 in
theorem eqOpSS_c (h h2 : Sl) (xs ys : List OpSH) (w : World) (hh : At w [fR (threadsO h xs), fR (threadsO h2 ys)]) (hl : xs.length ≤ 1048576) (hb : ∀ x ∈ xs, OpS.small20 x.m) (hb2 : ∀ x ∈ ys, OpS.small20 x.m) :
   Calls Tryz.prog 82 #[h.val xs.length, h2.val ys.length] w (Ret w fun v L => v = .bool (decide (xs.map (·.m) = ys.map (·.m))) ∧ L = []) := by
 refine calls2 Tryz.func82 rfl tabOk w _ rfl _ rfl _ hh ⟨rfl, rfl, rfl, rfl, trivial⟩ _ _ (by decide) ?_
 apply CaseB.mk <;> intro g
 · have hne : xs.map (·.m) ≠ ys.map (·.m) := fun e => by
     have := congrArg List.length e
     simp at this g
     omega
   refine ret0 ⟨?_, rfl⟩ (fun _ => rfl)
   simp [hne]
 · have hll : xs.length = ys.length := by simp at g; omega
   refine LoopW.mk ⟨{ k : Nat // k ≤ xs.length ∧ (xs.map (·.m)).take k = (ys.map (·.m)).take k },
     fun p => .mk [(0, .v (h.val xs.length)), (1, .v (h2.val ys.length)), (5, .v (.int .i64 p.1))] 0 0 [] [] [fR (threadsO h xs), fR (threadsO h2 ys)],
     fun p => xs.length - p.1, ⟨0, Nat.zero_le _, rfl⟩, ?_, ?_⟩
   · exact weak_mk [0, 1] zw2 zw0 zw2 zw5 zw4 rfl rfl
   · rintro ⟨k, hk, he⟩
     refine CaseB.mk (fun g2 => ?_) (fun g2 => ?_)
     · have hlt : k < xs.length := by simpa using g2
       have hlt2 : k < ys.length := by omega
       obtain ⟨q1, q2⟩ := take_eq_succ he z99 z95
       simp only [List.getElem_map] at q1 q2
       refine draw_start tabOk z107 z107 z107 200 [] [0, 1] [_, _] trivial trivial ⟨rfl, rfl, trivial⟩ rfl ?_
       refine d_idx (ti := tiOf tab) encOpSH tabOk rfl rfl rfl rfl rfl ⟨rfl, rfl⟩ (rdVia 0 rfl (.ofR nest_h)) k rfl z47 (fun ad => ?_)
       refine d_idx (ti := tiOf tab) encOpSH tabOk rfl rfl rfl rfl rfl ⟨rfl, rfl⟩ (rdVia 1 rfl (.ofR nest_h)) k rfl z47 (fun ad2 => ?_)
       refine d_call _ cl151 rfl rfl rfl rfl ⟨rfl, rfl⟩ (fun A w hW => eqOpS_c _ _ _ _ w ⟨hW.get 0 rfl (.ofR (threadsO_0 h xs k hlt)), hW.get 1 rfl (.ofR (threadsO_0 h2 ys k hlt2)), trivial⟩ (Nat.le_trans (hb _ (List.getElem_mem hlt)) (by decide)) (Nat.le_trans (hb2 _ (List.getElem_mem hlt2)) (by decide))) ?_
       rintro v L ⟨rfl, rfl⟩
       refine CaseB.mk (fun g3 => ?_) (fun g3 => ?_)
       · have hne := q2 z100
         refine ret0 ⟨?_, rfl⟩ (fun _ => rfl)
         simp [hne]
       · have heq := q1 z100
         have hw := e_succ k _ hlt (by omega)
         refine ⟨⟨k + 1, by omega, heq⟩, ?_, by simp; omega⟩
         exact weak_mk [0, 1] zw1 zw0 zw1 zw5 zw3 rfl rfl
     · have hge : xs.length ≤ k := by simpa using g2
       have heq : xs.map (·.m) = ys.map (·.m) := by rw [List.take_of_length_le z97, List.take_of_length_le z106] at he; exact he
       refine ret0 ⟨?_, rfl⟩ (fun _ => rfl)
       simp [heq]
def Prog.small20 (s : Prog) : Prop := s.sems.length ≤ 1048576 ∧ s.groups.length ≤ 1048576 ∧ s.barriers.length ≤ 1048576 ∧ s.rooms.length ≤ 1048576 ∧ allS OpS.small20 s.threads
def szProgM (s : Prog) (left : Int) : Int := szSeq [szN s.sems.length, szN s.groups.length, szN s.barriers.length, szN s.rooms.length, szAll szOpSM s.threads] left
theorem szProgM_gen (s : Prog) (l : Int) (hl : l ≤ 1048576) (h : ¬ szProgM s l < 0) : s.small20 ∧ szProgM s l ≤ l := by
 simp only [szProgM, szSeq, szList] at h ⊢
 by_cases q0 : szN s.sems.length l < 0
 · simp [q0] at h
 obtain ⟨p0, r0⟩ := szN_gen hl q0
 have t0 : szN s.sems.length l ≤ 1048576 := Int.le_trans r0 hl
 by_cases q1 : szN s.groups.length (szN s.sems.length l) < 0
 · simp [q0, q1] at h
 obtain ⟨p1, r1⟩ := szN_gen t0 q1
 have t1 : szN s.groups.length (szN s.sems.length l) ≤ 1048576 := Int.le_trans r1 t0
 by_cases q2 : szN s.barriers.length (szN s.groups.length (szN s.sems.length l)) < 0
 · simp [q0, q1, q2] at h
 obtain ⟨p2, r2⟩ := szN_gen t1 q2
 have t2 : szN s.barriers.length (szN s.groups.length (szN s.sems.length l)) ≤ 1048576 := Int.le_trans r2 t1
 by_cases q3 : szN s.rooms.length (szN s.barriers.length (szN s.groups.length (szN s.sems.length l))) < 0
 · simp [q0, q1, q2, q3] at h
 obtain ⟨p3, r3⟩ := szN_gen t2 q3
 have t3 : szN s.rooms.length (szN s.barriers.length (szN s.groups.length (szN s.sems.length l))) ≤ 1048576 := Int.le_trans r3 t2
 by_cases q4 : szAll szOpSM s.threads (szN s.rooms.length (szN s.barriers.length (szN s.groups.length (szN s.sems.length l)))) < 0
 · simp [q0, q1, q2, q3, q4] at h
 obtain ⟨p4, r4⟩ := szAll_gen szOpSM_gen t3 q4
 have t4 : szAll szOpSM s.threads (szN s.rooms.length (szN s.barriers.length (szN s.groups.length (szN s.sems.length l)))) ≤ 1048576 := Int.le_trans r4 t3
 simp only [q0, q1, q2, q3, q4, if_false]
 exact ⟨⟨p0, p1, p2, p3, p4⟩, by omega⟩
set_option maxHeartbeats 16000000 in
set_option maxRecDepth 100000 in
theorem szProg_c (s : ProgH) (left : Int) (w : World) (h : At w [fR (progO s)]) (h0 : -1 ≤ left) (h1 : left ≤ 1048576) :
   Calls Tryz.prog 12 #[progV s, .int .i64 left] w (Ret w fun v L => v = .int .i64 (szProgM s.pure left) ∧ L = []) := by
 have hz : szProgM s.pure left = szSeq [szN s.sems.length, szN s.groups.length, szN s.barriers.length, szN s.rooms.length, szAll szOpSM (s.threads.map (·.m))] left := rfl
 simp only [szSeq, szList] at hz
 refine calls2 Tryz.func12 rfl tabOk w _ rfl _ rfl _ h ⟨rfl, rfl, trivial⟩ _ _ (by decide) ?_
 refine stop_call _ cl44 rfl rfl rfl rfl ⟨rfl, rfl⟩ (fun A w hW => ret_abs (szIntS_c s.h0 s.sems left w ⟨hW.get 0 rfl (.ofR (progO_sems s)), trivial⟩ h0 h1)) ?_
 rintro v L ⟨a0, e0, rfl, rfl⟩
 have r0 : ¬ szN s.sems.length left < 0 → szN s.sems.length left ≤ left := fun q => (szN_gen h1 q).2
 simp only [← e0] at hz
 rw [← e0] at r0
 apply CaseB.mk <;> intro g
 · have q : a0 < 0 := by simpa using g
   exact ret0 ⟨by rw [hz]; simp [q], rfl⟩ (fun _ => rfl)
 have q0 : ¬ a0 < 0 := by simpa using g
 have u0 : -1 ≤ a0 := by omega
 have v0 : a0 ≤ 1048576 := Int.le_trans (r0 q0) h1
 refine stop_call _ cl44 rfl rfl rfl rfl ⟨rfl, rfl⟩ (fun A w hW => ret_abs (szIntS_c s.h1 s.groups a0 w ⟨hW.get 0 rfl (.ofR (progO_groups s)), trivial⟩ u0 v0)) ?_
 rintro v L ⟨a1, e1, rfl, rfl⟩
 have r1 : ¬ szN s.groups.length a0 < 0 → szN s.groups.length a0 ≤ a0 := fun q => (szN_gen v0 q).2
 simp only [← e1] at hz
 rw [← e1] at r1
 apply CaseB.mk <;> intro g
 · have q : a1 < 0 := by simpa using g
   exact ret0 ⟨by rw [hz]; simp [q0, q], rfl⟩ (fun _ => rfl)
 have q1 : ¬ a1 < 0 := by simpa using g
 have u1 : -1 ≤ a1 := by omega
 have v1 : a1 ≤ 1048576 := Int.le_trans (r1 q1) v0
 refine stop_call _ cl44 rfl rfl rfl rfl ⟨rfl, rfl⟩ (fun A w hW => ret_abs (szIntS_c s.h2 s.barriers a1 w ⟨hW.get 0 rfl (.ofR (progO_barriers s)), trivial⟩ u1 v1)) ?_
 rintro v L ⟨a2, e2, rfl, rfl⟩
 have r2 : ¬ szN s.barriers.length a1 < 0 → szN s.barriers.length a1 ≤ a1 := fun q => (szN_gen v1 q).2
 simp only [← e2] at hz
 rw [← e2] at r2
 apply CaseB.mk <;> intro g
 · have q : a2 < 0 := by simpa using g
   exact ret0 ⟨by rw [hz]; simp [q0, q1, q], rfl⟩ (fun _ => rfl)
 have q2 : ¬ a2 < 0 := by simpa using g
 have u2 : -1 ≤ a2 := by omega
 have v2 : a2 ≤ 1048576 := Int.le_trans (r2 q2) v1
 refine stop_call _ cl44 rfl rfl rfl rfl ⟨rfl, rfl⟩ (fun A w hW => ret_abs (szIntS_c s.h3 s.rooms a2 w ⟨hW.get 0 rfl (.ofR (progO_rooms s)), trivial⟩ u2 v2)) ?_
 rintro v L ⟨a3, e3, rfl, rfl⟩
 have r3 : ¬ szN s.rooms.length a2 < 0 → szN s.rooms.length a2 ≤ a2 := fun q => (szN_gen v2 q).2
 simp only [← e3] at hz
 rw [← e3] at r3
 apply CaseB.mk <;> intro g
 · have q : a3 < 0 := by simpa using g
   exact ret0 ⟨by rw [hz]; simp [q0, q1, q2, q], rfl⟩ (fun _ => rfl)
 have q3 : ¬ a3 < 0 := by simpa using g
 have u3 : -1 ≤ a3 := by omega
 have v3 : a3 ≤ 1048576 := Int.le_trans (r3 q3) v2
 refine stop_call _ cl45 rfl rfl rfl rfl ⟨rfl, rfl⟩ (fun A w hW => ret_abs (szOpSS_c s.h4 s.threads a3 w ⟨hW.get 0 rfl (.R_R (progO_threads s)), trivial⟩ u3 v3)) ?_
 rintro v L ⟨a4, e4, rfl, rfl⟩
 have r4 : ¬ szAll szOpSM (s.threads.map (·.m)) a3 < 0 → szAll szOpSM (s.threads.map (·.m)) a3 ≤ a3 := fun q => (szAll_gen szOpSM_gen v3 q).2
 simp only [← e4] at hz
 rw [← e4] at r4
 apply CaseB.mk <;> intro g
 · have q : a4 < 0 := by simpa using g
   exact ret0 ⟨by rw [hz]; simp [q0, q1, q2, q3, q], rfl⟩ (fun _ => rfl)
 have q4 : ¬ a4 < 0 := by simpa using g
 have u4 : -1 ≤ a4 := by omega
 have v4 : a4 ≤ 1048576 := Int.le_trans (r4 q4) v3
 refine ret0 ⟨?_, rfl⟩ (fun _ => rfl)
 rw [hz]; simp [q0, q1, q2, q3, q4]
set_option maxHeartbeats 16000000 in
set_option maxRecDepth 100000 in
theorem toProg_c (s : ProgH) (w : World) (h : At w [fR (progO s)]) (hb : s.pure.small20) :
   Calls Tryz.prog 15 #[progV s] w (Ret w fun v L => ∃ y : ProgH, v = progV y ∧ y.pure = s.pure ∧ L = [fO (progO y)]) := by
 obtain ⟨b0, b1, b2, b3, b4⟩ := hb
 refine calls1 Tryz.func15 rfl tabOk w _ rfl _ rfl _ h ⟨rfl, rfl, trivial⟩ _ (by decide) ?_
 refine stop_call _ cl40 rfl rfl rfl rfl ⟨rfl, rfl⟩ (fun A w hW => toIntS_c s.h0 s.sems w ⟨hW.get 0 rfl (.ofR (progO_sems s)), trivial⟩ b0) ?_
 rintro v L ⟨y0, rfl, rfl⟩
 refine stop_call _ cl40 rfl rfl rfl rfl ⟨rfl, rfl⟩ (fun A w hW => toIntS_c s.h1 s.groups w ⟨hW.get 1 rfl (.ofR (progO_groups s)), trivial⟩ b1) ?_
 rintro v L ⟨y1, rfl, rfl⟩
 refine stop_call _ cl40 rfl rfl rfl rfl ⟨rfl, rfl⟩ (fun A w hW => toIntS_c s.h2 s.barriers w ⟨hW.get 2 rfl (.ofR (progO_barriers s)), trivial⟩ b2) ?_
 rintro v L ⟨y2, rfl, rfl⟩
 refine stop_call _ cl40 rfl rfl rfl rfl ⟨rfl, rfl⟩ (fun A w hW => toIntS_c s.h3 s.rooms w ⟨hW.get 3 rfl (.ofR (progO_rooms s)), trivial⟩ b3) ?_
 rintro v L ⟨y3, rfl, rfl⟩
 refine stop_call _ cl54 rfl rfl rfl rfl ⟨rfl, rfl⟩ (fun A w hW => toOpSS_c s.h4 s.threads w ⟨hW.get 4 rfl (.R_R (progO_threads s)), trivial⟩ (allS_map b4).1 (allS_map b4).2) ?_
 rintro v L ⟨y4, ys4, rfl, e4, rfl⟩
 generalize hy : (⟨s.sems, s.groups, s.barriers, s.rooms, ys4, y0, y1, y2, y3, y4⟩ : ProgH) = y
 refine ret_shift (.joinO [4, 3, 2, 1, 0] (Gs := [[_], [_], [_], [_], _]) z121 rfl (G := progO y) ?_) ?_
 · subst hy; exact .of_eq (by simp [progO])
 exact retw [0] ⟨y, by rw [← hy]; rfl, by rw [← hy]; simp [ProgH.pure, e4], rfl⟩ z146 rfl ⟨rfl, trivial⟩ (fun _ => rfl)
set_option maxHeartbeats 16000000 in
set_option maxRecDepth 100000 in
theorem eqProg_c (s t : ProgH) (w : World) (h : At w [fR (progO s), fR (progO t)]) (hb : s.pure.small20) (hb2 : t.pure.small20) :
   Calls Tryz.prog 19 #[progV s, progV t] w (Ret w fun v L => v = .bool (decide (s.pure = t.pure)) ∧ L = []) := by
 have hx : s.pure = t.pure ↔ s.sems = t.sems ∧ s.groups = t.groups ∧ s.barriers = t.barriers ∧ s.rooms = t.rooms ∧ s.threads.map (·.m) = t.threads.map (·.m) := by
   simp only [ProgH.pure, Prog.mk.injEq]
 obtain ⟨b0, b1, b2, b3, b4⟩ := hb
 obtain ⟨c0, c1, c2, c3, c4⟩ := hb2
 refine calls2 Tryz.func19 rfl tabOk w _ rfl _ rfl _ h ⟨rfl, rfl, rfl, rfl, trivial⟩ _ _ (by decide) ?_
 refine stop_call _ cl36 rfl rfl rfl rfl ⟨rfl, rfl⟩ (fun A w hW => eqIntS_c s.h0 t.h0 s.sems t.sems w ⟨hW.get 0 rfl (.ofR (progO_sems s)), hW.get 1 rfl (.ofR (progO_sems t)), trivial⟩ (Nat.le_trans b0 (by decide)) (Nat.le_trans c0 (by decide))) ?_
 rintro v L ⟨rfl, rfl⟩
 refine CaseB.mk (fun g0 => ?_) (fun g0 => ?_)
 · have g : ¬ s.pure = t.pure := fun e => by rw [hx] at e; simp [e] at g0
   exact ret0 ⟨by simp [g], rfl⟩ (fun _ => rfl)
 refine stop_call _ cl36 rfl rfl rfl rfl ⟨rfl, rfl⟩ (fun A w hW => eqIntS_c s.h1 t.h1 s.groups t.groups w ⟨hW.get 0 rfl (.ofR (progO_groups s)), hW.get 1 rfl (.ofR (progO_groups t)), trivial⟩ (Nat.le_trans b1 (by decide)) (Nat.le_trans c1 (by decide))) ?_
 rintro v L ⟨rfl, rfl⟩
 refine CaseB.mk (fun g1 => ?_) (fun g1 => ?_)
 · have g : ¬ s.pure = t.pure := fun e => by rw [hx] at e; simp [e] at g1
   exact ret0 ⟨by simp [g], rfl⟩ (fun _ => rfl)
 refine stop_call _ cl36 rfl rfl rfl rfl ⟨rfl, rfl⟩ (fun A w hW => eqIntS_c s.h2 t.h2 s.barriers t.barriers w ⟨hW.get 0 rfl (.ofR (progO_barriers s)), hW.get 1 rfl (.ofR (progO_barriers t)), trivial⟩ (Nat.le_trans b2 (by decide)) (Nat.le_trans c2 (by decide))) ?_
 rintro v L ⟨rfl, rfl⟩
 refine CaseB.mk (fun g2 => ?_) (fun g2 => ?_)
 · have g : ¬ s.pure = t.pure := fun e => by rw [hx] at e; simp [e] at g2
   exact ret0 ⟨by simp [g], rfl⟩ (fun _ => rfl)
 refine stop_call _ cl36 rfl rfl rfl rfl ⟨rfl, rfl⟩ (fun A w hW => eqIntS_c s.h3 t.h3 s.rooms t.rooms w ⟨hW.get 0 rfl (.ofR (progO_rooms s)), hW.get 1 rfl (.ofR (progO_rooms t)), trivial⟩ (Nat.le_trans b3 (by decide)) (Nat.le_trans c3 (by decide))) ?_
 rintro v L ⟨rfl, rfl⟩
 refine CaseB.mk (fun g3 => ?_) (fun g3 => ?_)
 · have g : ¬ s.pure = t.pure := fun e => by rw [hx] at e; simp [e] at g3
   exact ret0 ⟨by simp [g], rfl⟩ (fun _ => rfl)
 refine stop_call _ cl82 rfl rfl rfl rfl ⟨rfl, rfl⟩ (fun A w hW => eqOpSS_c s.h4 t.h4 s.threads t.threads w ⟨hW.get 0 rfl (.R_R (progO_threads s)), hW.get 1 rfl (.R_R (progO_threads t)), trivial⟩ (allS_map b4).1 (allS_map b4).2 (allS_map c4).2) ?_
 rintro v L ⟨rfl, rfl⟩
 refine CaseB.mk (fun g4 => ?_) (fun g4 => ?_)
 · have g : ¬ s.pure = t.pure := fun e => by rw [hx] at e; simp [e] at g4
   exact ret0 ⟨by simp [g], rfl⟩ (fun _ => rfl)
 have g : s.pure = t.pure := hx.2 ⟨by simpa using g0, by simpa using g1, by simpa using g2, by simpa using g3, by simpa using g4⟩
 exact ret0 ⟨by simp [g], rfl⟩ (fun _ => rfl)
theorem neWait (x y : Waiting) (w : World) : (binOp .neq 153 (.agg (cWait x).toArray) (.agg (cWait y).toArray)).run Tryz.prog w = .ok (.bool (decide (x ≠ y))) w := by
 have h := neq_ints (P := Tryz.prog) (t := 153) (it := 3) (xs := [x.kind, x.on, x.arg]) (ys := [y.kind, y.on, y.arg]) z107 z107 z107 rfl z107 w
 have e : ([x.kind, x.on, x.arg] ≠ [y.kind, y.on, y.arg]) ↔ x ≠ y := by cases x; cases y; simp
 rw [show decide (x ≠ y) = decide ([x.kind, x.on, x.arg] ≠ [y.kind, y.on, y.arg]) from by simp only [e]]
 exact h
def ofKey {β : Type} (es : List (Int × β)) (t : Int) : List β := (es.filter fun e => e.1 == t).map (·.2)
theorem aget_aset {β : Type} (m : List (Int × β)) (k : Int) (v : β) (t : Int) : aget (aset m k v) t = if k = t then some v else aget m t := by
 induction m with
 | nil => simp only [aset, aget]
 | cons p r ih =>
   obtain ⟨q, u⟩ := p
   simp only [aset]
   by_cases e : q = k
   · subst e
     simp only [if_true, aget]
     by_cases e2 : q = t <;> simp [e2]
   · simp only [e, if_false, aget, ih]
     by_cases e2 : q = t
     · subst e2
       have : ¬ k = q := fun h => e h.symm
       simp [this]
     · simp [e2]
theorem mapOf_get {β : Type} (es : List (Int × β)) (t : Int) : aget (mapOf es) t = if ofKey es t = [] then none else some (ofKey es t) := by
 have : ∀ (es : List (Int × β)) (m : List (Int × List β)) (f : List β), (aget m t = if f = [] then none else some f) → aget (es.foldl addM m) t = if f ++ ofKey es t = [] then none else some (f ++ ofKey es t) := fun es => by
   induction es with
   | nil => intro m f h; simpa [ofKey] using h
   | cons e r ih =>
     intro m f h
     obtain ⟨k, x⟩ := e
     simp only [List.foldl_cons]
     by_cases hk : k = t
     · subst hk
       have h1 : aget (addM m (k, x)) k = some (f ++ [x]) := by
         rw [addM, aget_aset, if_pos rfl, h]
         by_cases hf : f = []
         · simp [hf]
         · simp [hf]
       have := ih (addM m (k, x)) (f ++ [x]) (by rw [h1]; simp)
       rw [this]
       simp [ofKey]
     · have h1 : aget (addM m (k, x)) t = aget m t := by rw [addM, aget_aset, if_neg hk]
       have := ih (addM m (k, x)) f (by rw [h1]; exact h)
       rw [this]
       have e2 : ofKey ((k, x) :: r) t = ofKey r t := by simp [ofKey, hk]
       rw [e2]
 have := this es [] [] (by simp [aget])
 simpa [mapOf] using this
theorem mapOf_getD {β : Type} (es : List (Int × β)) (t : Int) : (aget (mapOf es) t).getD [] = ofKey es t := by
 rw [mapOf_get]
 by_cases h : ofKey es t = [] <;> simp [h]
theorem ofKey_nil {β : Type} {es : List (Int × β)} {t : Int} : ofKey es t = [] ↔ ∀ e ∈ es, e.1 ≠ t := by
 simp [ofKey, List.filter_eq_nil_iff]
def keyed {β : Type} (m : List (Int × β)) : Prop := (m.map (·.1)).Nodup
theorem aset_keys {β : Type} (m : List (Int × β)) (k : Int) (v : β) : (aset m k v).map (·.1) = if k ∈ m.map (·.1) then m.map (·.1) else m.map (·.1) ++ [k] := by
 induction m with
 | nil => simp [aset]
 | cons p r ih =>
   obtain ⟨q, u⟩ := p
   simp only [aset]
   by_cases e : q = k
   · simp [e]
   · have e' : ¬ k = q := fun h => e h.symm
     simp only [e, if_false, List.map_cons, ih, List.mem_cons, e', false_or]
     split <;> simp
theorem mapOf_keyed {β : Type} (es : List (Int × β)) : keyed (mapOf es) := by
 have : ∀ (es : List (Int × β)) (m : List (Int × List β)), keyed m → keyed (es.foldl addM m) := fun es => by
   induction es with
   | nil => intro m h; exact h
   | cons e r ih =>
     intro m h
     refine ih _ ?_
     simp only [keyed, addM, aset_keys] at h ⊢
     split
     · exact h
     · rename_i hn
       rw [List.nodup_append]
       exact ⟨h, by simp, fun a ha b hb => by simp at hb; subst hb; rintro rfl; exact hn ha⟩
 exact this es [] (by simp [keyed])
theorem keyed_pm {β : Type} {ps : List (Int × LH β)} : keyed (pm ps) ↔ keyed ps := by
 simp [keyed, pm, Function.comp_def]
theorem aget_none {β : Type} {m : List (Int × β)} {t : Int} : aget m t = none ↔ t ∉ m.map (·.1) := by
 induction m with
 | nil => simp [aget]
 | cons p r ih =>
   obtain ⟨q, u⟩ := p
   simp only [aget]
   by_cases e : q = t
   · simp [e]
   · have e' : ¬ t = q := fun h => e h.symm
     simp [e, e', ih]
theorem aget_in {β : Type} {m : List (Int × β)} {t : Int} {u : β} (h : aget m t = some u) : (t, u) ∈ m := by
 induction m with
 | nil => simp [aget] at h
 | cons p r ih =>
   obtain ⟨q, v⟩ := p
   simp only [aget] at h
   by_cases e : q = t
   · simp only [e, if_true, Option.some.injEq] at h
     subst h; subst e; simp
   · simp only [e, if_false] at h
     exact List.mem_cons_of_mem _ (ih h)
theorem adel_sub {β : Type} (m : List (Int × β)) (t : Int) : (adel m t).Sublist m := by
 induction m with
 | nil => exact .refl _
 | cons p r ih =>
   obtain ⟨q, v⟩ := p
   simp only [adel]
   split
   · exact List.sublist_cons_self _ _
   · exact ih.cons_cons _
theorem keyed_del {β : Type} {m : List (Int × β)} (h : keyed m) (t : Int) : keyed (adel m t) := h.sublist ((adel_sub m t).map _)
theorem aget_del {β : Type} {m : List (Int × β)} (h : keyed m) (t x : Int) : aget (adel m t) x = if x = t then none else aget m x := by
 induction m with
 | nil => simp [adel, aget]
 | cons p r ih =>
   obtain ⟨q, v⟩ := p
   have hq : q ∉ r.map (·.1) ∧ keyed r := by simpa [keyed] using h
   simp only [adel]
   by_cases e : q = t
   · subst e
     simp only [if_true]
     by_cases ex : x = q
     · subst ex; simp only [if_true]; exact aget_none.2 hq.1
     · have : ¬ q = x := fun h => ex h.symm
       simp [ex, aget, this]
   · simp only [e, if_false, aget, ih hq.2]
     by_cases ex : q = x
     · subst ex; simp [e]
     · simp [ex]
theorem nil_of_none {β : Type} {m : List (Int × β)} (h : ∀ x, aget m x = none) : m = [] := by
 cases m with
 | nil => rfl
 | cons p r =>
   have := h p.1
   simp [aget] at this
theorem rows_in {β : Type} {ty : TypeId} {enc : β → List Value} {sz : Nat} {ps : List (Int × LH β)} {t : Int} {u : LH β} (h : (t, u) ∈ ps) : RdIn (rowsM ty enc sz ps) (slo u.q enc sz u.xs) :=
 RdIn.own (o := false) (e := ty) (List.mem_flatMap.2 ⟨_, h, by simp⟩)
structure Left {β : Type} (ps qs : List (Int × LH β)) (k : Nat) : Prop where
 sub : qs.Sublist ps
 key : keyed qs
 get : ∀ x, aget qs x = if 0 ≤ x ∧ x < k then none else aget ps x
theorem Left.start {β : Type} {ps : List (Int × LH β)} (h : keyed ps) : Left ps ps 0 := ⟨.refl _, h, fun x => by rw [if_neg (by omega)]⟩
theorem Left.next {β : Type} {ps qs : List (Int × LH β)} {k : Nat} (h : Left ps qs k) : Left ps (adel qs (k : Int)) (k + 1) := by
 refine ⟨(adel_sub _ _).trans h.sub, keyed_del h.key _, fun x => ?_⟩
 rw [aget_del h.key, h.get]
 by_cases e : x = k
 · rw [if_pos e, if_pos (by omega)]
 · rw [if_neg e]
   by_cases e2 : 0 ≤ x ∧ x < k
   · rw [if_pos e2, if_pos (by omega)]
   · rw [if_neg e2, if_neg (by omega)]
theorem Left.at {β : Type} {ps qs : List (Int × LH β)} {k : Nat} (h : Left ps qs k) {es : List (Int × β)} (he : pm ps = mapOf es) : ((aget qs (k : Int)).getD LH.nil).xs = ofKey es k := by
 have h1 := h.get k
 rw [if_neg (by omega)] at h1
 have h2 := mapOf_getD es (k : Int)
 rw [← he, pm_aget] at h2
 rw [h1, ← h2]
 cases aget ps (k : Int) <;> rfl
theorem Left.done {β : Type} {ps qs : List (Int × LH β)} {k : Nat} (h : Left ps qs k) {es : List (Int × β)} (he : pm ps = mapOf es) : qs = [] ↔ ∀ e ∈ es, 0 ≤ e.1 ∧ e.1 < k := by
 constructor
 · rintro rfl e hm
   refine Classical.byContradiction fun hn => ?_
   have h1 := h.get e.1
   rw [if_neg hn] at h1
   have h2 := mapOf_get es e.1
   have h3 : ofKey es e.1 ≠ [] := fun h0 => ofKey_nil.1 h0 e hm rfl
   rw [if_neg h3, ← he, pm_aget, ← h1] at h2
   simp [aget] at h2
 · intro hall
   refine nil_of_none fun x => ?_
   rw [h.get]
   split
   · rfl
   · rename_i hn
     have h3 : ofKey es x = [] := ofKey_nil.2 fun e hm hx => hn (hx ▸ hall e hm)
     have h2 := mapOf_get es x
     rw [if_pos h3, ← he, pm_aget] at h2
     cases hq : aget ps x with
     | none => rfl
     | some u => rw [hq] at h2; simp at h2
def want (o : Op) : Waiting := ⟨o.kind, o.on, if o.kind = 2 ∨ o.kind = 8 then o.arg else 0⟩
def ThreadOk (ops : List Op) (at_ st : Int) (w : List Waiting) (o : List Int) : Prop :=
 0 ≤ at_ ∧ at_ ≤ ops.length ∧ ((at_ = ops.length ∧ st = 3 ∧ w = [] ∧ o = []) ∨
   ∃ op, ops[at_.toNat]? = some op ∧ ((st = 0 ∧ w = [] ∧ o = []) ∨ (st = 1 ∧ o = [] ∧ w = [want op]) ∨ (st = 2 ∧ w = [] ∧ op.kind = 4 ∧ o = [op.on])))
structure Fits (p : Prog) (s : State) : Prop where
 prog : ProgOk p
 np : s.places.length = p.threads.length
 ns : s.status.length = p.threads.length
 lsems : s.sems.length = p.sems.length
 lgroups : s.groups.length = p.groups.length
 lbarriers : s.barriers.length = p.barriers.length
 lchans : s.chans.length = p.rooms.length
 lonces : s.onces.length = 3
 lsaid : s.said.length ≤ 64
 f0 : 0 ≤ s.fault
 f4 : s.fault ≤ 4
 sems : ∀ (i : Nat) x, s.sems[i]? = some x → SemOk x ∧ p.sems[i]? = some x.limit
 groups : ∀ x ∈ s.groups, GroupOk x
 barriers : ∀ (i : Nat) x, s.barriers[i]? = some x → BarrierOk x ∧ p.barriers[i]? = some x.parties
 chans : ∀ (i : Nat) x, s.chans[i]? = some x → x.valid = true ∧ p.rooms[i]? = some x.room
 onces : ∀ x ∈ s.onces, OnceOk x
 said : ∀ v ∈ s.said, isValue v = true
 threads : ∀ (t : Nat) ops at_ st, p.threads[t]? = some ops → s.places[t]? = some at_ → s.status[t]? = some st → ThreadOk ops at_ st (ofKey (events s) t) (ofKey (owners s) t)
 ev : ∀ e ∈ events s, 0 ≤ e.1 ∧ e.1 < p.threads.length
 ow : ∀ e ∈ owners s, 0 ≤ e.1 ∧ e.1 < p.threads.length
theorem evL_len {α β : Type} {f : Nat → α → List β} {C : Nat} : ∀ {i : Nat} {xs : List α}, (∀ i x, x ∈ xs → (f i x).length ≤ C) → (evL f i xs).length ≤ xs.length * C
 | i, [], _ => by simp [evL]
 | i, x :: r, h => by
   have h1 := h i x (by simp)
   have h2 := evL_len (i := i + 1) (xs := r) fun i y hy => h i y z109
   have e : (r.length + 1) * C = r.length * C + C := Nat.succ_mul _ _
   simp only [evL, List.length_append, List.length_cons, e]
   omega
theorem onceOk_len {m : Once} (h : OnceOk m) : m.waits.length ≤ 6 := by
 rcases h with h | h | h
 · rw [h.2.2.2]; simp
 · exact distinct_len h.2.2.2.1
 · rw [h.2.2.2]; simp
theorem barrierOk_len {m : Barrier} (h : BarrierOk m) : m.waits.length ≤ 6 := distinct_len h.2.2.2.2.2
theorem groupOk_len {m : Group} (h : GroupOk m) : m.waits.length ≤ 6 := distinct_len h.2.1
theorem chanOk_len {m : Chan} (h : m.valid = true) : m.senders.length + m.getters.length ≤ 6 := by
 have hv : m.Valid := by simpa [Chan.valid] using h
 have := distinct_len hv.di
 simpa [Chan.threads] using this
set_option maxHeartbeats 2000000 in
set_option maxRecDepth 100000 in
theorem validS_c (m : Chan) (i s g : Sl) (w : World) (h : At w [slo i cInt 1 m.items, slo s cLet 2 m.senders, slo g cInt 1 m.getters]) (hb : m.small) :
   Calls Tryz.prog 163 #[chanV m i s g] w (Ret w fun v L => v = .bool m.valid ∧ L = []) := by
 obtain ⟨b1, b2, b3⟩ := hb
 have bT : m.threads.length ≤ 8589934592 := by simp [Chan.threads]; omega
 have hno : ∀ {P : Prop}, ¬ P → (m.Valid → P) → ∀ A, resV A [SV.lit false] = Value.bool m.valid := fun h1 h2 _ => Chan.invalid fun hv => h1 (h2 hv)
 refine calls1 Tryz.func163 rfl tabOk w _ rfl _ rfl _ h z143 _ (by decide) ?_
 refine CaseB.mk (fun h1 => ?_) (fun h1 => ?_)
 · exact ret0 ⟨rfl, rfl⟩ (hno (by simp at h1; omega) Chan.Valid.r0)
 · have r0 : 0 ≤ m.room := by simp at h1; omega
   refine CaseB.mk (fun h2 => ?_) (fun h2 => ?_)
   · exact ret0 ⟨rfl, rfl⟩ (hno (by simp at h2; omega) Chan.Valid.r1)
   · have r1 : m.room ≤ 4 := by simp at h2; omega
     refine CaseB.mk (fun h3 => ?_) (fun h3 => ?_)
     · exact ret0 ⟨rfl, rfl⟩ (hno (by simp at h3; omega) Chan.Valid.it)
     · have it : (m.items.length : Int) ≤ m.room := by simp at h3; omega
       refine CaseB.mk (fun h4 => ?_) (fun h4 => ?_)
       · exact ret0 ⟨rfl, rfl⟩ (hno (P := m.senders.length ≤ 6) (by simp at h4; omega) (fun hv => by have := distinct_len hv.di; simp [Chan.threads] at this; omega))
       refine CaseB.mk (fun h5 => ?_) (fun h5 => ?_)
       · exact ret0 ⟨rfl, rfl⟩ (hno (P := m.getters.length ≤ 6) (by simp at h5; omega) (fun hv => by have := distinct_len hv.di; simp [Chan.threads] at this; omega))
       have e7 : m.senders.take 7 = m.senders := List.take_of_length_le (by simp at h4; omega)
       refine LoopW.mk ⟨{ k : Nat // k ≤ m.items.length ∧ ∀ x ∈ m.items.take k, isValue x = true },
         fun p => .mk [(1, .p 0 0), (3, .v (.int .i64 p.1))] 1 0 [(0, 119, 5)] [((0, 0), .v (.int .i64 m.room)), ((0, 1), .v (i.val m.items.length)), ((0, 2), .v (s.val m.senders.length)), ((0, 3), .v (g.val m.getters.length)), ((0, 4), .v (.bool m.closed))] [slo i cInt 1 m.items, slo s cLet 2 m.senders, slo g cInt 1 m.getters],
         fun p => m.items.length - p.1, ⟨0, Nat.zero_le _, by simp⟩, ?_, ?_⟩
       · exact weak_mk [0, 1, 2] zw2 zw0 zw2 zw5 zw4 rfl rfl
       · rintro ⟨k, hk, ha⟩
         refine CaseB.mk (fun h => ?_) (fun h => ?_)
         · have hlt : k < m.items.length := by simpa using h
           refine stop_idx encInt tabOk rfl rfl rfl rfl rfl ⟨rfl, rfl⟩ z40 k rfl z47 (fun ad => ?_)
           refine stop_call _ cl96 rfl rfl rfl rfl ⟨rfl, rfl⟩ (fun A w hW => l2Value_c _ w) ?_
           rintro v L ⟨rfl, rfl⟩
           refine CaseB.mk (fun h => ?_) (fun h => ?_)
           · exact ret0 ⟨rfl, rfl⟩ (hno z101 (fun hv => hv.iv _ (List.getElem_mem hlt)))
           · have hw := wrapN k _ hlt b1
             refine ⟨⟨k + 1, by omega, all_take_succ hlt ha z101⟩, ?_, by simp; omega⟩
             exact weak_mk [0, 1, 2] zw1 zw0 zw1 zw5 zw3 rfl rfl
         · have hge : m.items.length ≤ k := by simpa using h
           rw [List.take_of_length_le hge] at ha
           refine LoopW.mk ⟨{ k : Nat // k ≤ m.senders.length ∧ ∀ x ∈ m.senders.take k, isValue x.v = true },
             fun p => .mk [(1, .p 0 0), (4, .v (.int .i64 p.1))] 1 0 [(0, 119, 5)] [((0, 0), .v (.int .i64 m.room)), ((0, 1), .v (i.val m.items.length)), ((0, 2), .v (s.val m.senders.length)), ((0, 3), .v (g.val m.getters.length)), ((0, 4), .v (.bool m.closed))] [slo i cInt 1 m.items, slo s cLet 2 m.senders, slo g cInt 1 m.getters],
             fun p => m.senders.length - p.1, ⟨0, Nat.zero_le _, by simp⟩, ?_, ?_⟩
           · exact weak_mk [0, 1, 2] zw2 zw0 zw2 zw5 zw4 rfl rfl
           · rintro ⟨k, hk, hs⟩
             refine CaseB.mk (fun h => ?_) (fun h => ?_)
             · have hlt : k < m.senders.length := by simpa using h
               refine stop_idx encLet tabOk rfl rfl rfl rfl rfl ⟨rfl, rfl⟩ z40 k rfl z47 (fun ad => ?_)
               refine stop_call _ cl96 rfl rfl rfl rfl ⟨rfl, rfl⟩ (fun A w hW => l2Value_c _ w) ?_
               rintro v L ⟨rfl, rfl⟩
               refine CaseB.mk (fun h => ?_) (fun h => ?_)
               · exact ret0 ⟨rfl, rfl⟩ (hno z101 (fun hv => hv.sv _ (List.getElem_mem hlt)))
               · have hw := wrapN k _ hlt b2
                 refine ⟨⟨k + 1, by omega, all_take_succ (p := fun l : Letter => isValue l.v = true) hlt hs z101⟩, ?_, by simp; omega⟩
                 exact weak_mk [0, 1, 2] zw1 zw0 zw1 zw5 zw3 rfl rfl
             · have hge : m.senders.length ≤ k := by simpa using h
               rw [List.take_of_length_le hge] at hs
               refine draw_start tabOk z107 z107 z107 200 [((0, 2), .v (s.val m.senders.length)), ((0, 3), .v (g.val m.getters.length))] [0, 1, 2] [_, _, _] z141 z150 ⟨rfl, rfl, rfl, trivial⟩ rfl ?_
               refine d_call _ cl164 rfl rfl rfl rfl ⟨rfl, rfl⟩ (fun A w hW => l5Threads_c s m.senders w ⟨z39, trivial⟩ b2) ?_
               rw [e7]
               rintro v L ⟨y, rfl, rfl⟩
               refine d_appK (ti := tiOf tab) encInt tabOk  rfl rfl rfl rfl rfl rfl rfl rfl rfl (by decide) ⟨rfl, rfl⟩ z43 z40 z47 z47 z105 (fun z => ?_)
               refine d_call _ cl199 rfl rfl rfl rfl ⟨rfl, rfl⟩ (fun A w hW => l2Waits_c z m.threads w ⟨z39, trivial⟩ bT) ?_
               rintro v L ⟨rfl, rfl⟩
               refine CaseB.mk (fun h => ?_) (fun h => ?_)
               · exact ret0 ⟨rfl, rfl⟩ (hno z101 Chan.Valid.di)
               · have hd : distinct m.threads = true := by simpa using h
                 have fin : (m.senders ≠ [] → (m.items.length : Int) = m.room ∧ m.getters = [] ∧ m.closed = false) → (m.getters ≠ [] → m.items = [] ∧ m.closed = false) → m.Valid := fun x y => ⟨r0, r1, it, ha, hs, hd, x, y⟩
                 refine CaseB.mk (fun q1 => ?_) (fun q1 => ?_)
                 · have hs1 : m.senders ≠ [] := len_pos.1 q1
                   refine CaseB.mk (fun q2 => ?_) (fun q2 => ?_)
                   · exact ret0 ⟨rfl, rfl⟩ (fun _ => Chan.invalid (fun hv => by have := (hv.se hs1).1; simp at q2; omega))
                   · have e2 : (m.items.length : Int) = m.room := by simp at q2; omega
                     refine CaseB.mk (fun q3 => ?_) (fun q3 => ?_)
                     · exact ret0 ⟨rfl, rfl⟩ (fun _ => Chan.invalid (fun hv => len_pos.1 q3 (hv.se hs1).2.1))
                     · have e3 : m.getters = [] := by
                         cases hg : m.getters with
                         | nil => rfl
                         | cons a r => rw [hg] at q3; simp at q3
                       refine CaseB.mk (fun q4 => ?_) (fun q4 => ?_)
                       · exact ret0 ⟨rfl, rfl⟩ (fun _ => Chan.invalid (fun hv => by have := (hv.se hs1).2.2; rw [q4] at this; cases this))
                       · have hS : m.senders ≠ [] → (m.items.length : Int) = m.room ∧ m.getters = [] ∧ m.closed = false := fun _ => ⟨e2, e3, q4⟩
                         refine CaseB.mk (fun q5 => ?_) (fun q5 => ?_)
                         · have hg : m.getters = [] := by simpa using q5
                           exact ret0 ⟨rfl, rfl⟩ (fun _ => Chan.isvalid (fin hS (fun hn => absurd hg hn)))
                         · have hg : m.getters ≠ [] := by simpa using q5
                           refine CaseB.mk (fun q6 => ?_) (fun q6 => ?_)
                           · have hi : m.items = [] := by simpa using q6
                             refine ret0 ⟨rfl, rfl⟩ (fun _ => ?_)
                             show Value.bool (!m.closed) = _
                             cases hc : m.closed with
                             | false => exact Chan.isvalid (fin hS (fun _ => ⟨hi, hc⟩))
                             | true => exact Chan.invalid (fun hv => by have := (hv.ge hg).2; rw [hc] at this; cases this)
                           · have hi : m.items ≠ [] := by simpa using q6
                             exact ret0 ⟨rfl, rfl⟩ (fun _ => Chan.invalid (fun hv => hi (hv.ge hg).1))
                 · have hs1 : m.senders = [] := by
                     cases hg : m.senders with
                     | nil => rfl
                     | cons a r => rw [hg] at q1; simp at q1
                   have hS : m.senders ≠ [] → (m.items.length : Int) = m.room ∧ m.getters = [] ∧ m.closed = false := fun hn => absurd hs1 hn
                   refine CaseB.mk (fun q5 => ?_) (fun q5 => ?_)
                   · have hg : m.getters = [] := by simpa using q5
                     exact ret0 ⟨rfl, rfl⟩ (fun _ => Chan.isvalid (fin hS (fun hn => absurd hg hn)))
                   · have hg : m.getters ≠ [] := by simpa using q5
                     refine CaseB.mk (fun q6 => ?_) (fun q6 => ?_)
                     · have hi : m.items = [] := by simpa using q6
                       refine ret0 ⟨rfl, rfl⟩ (fun _ => ?_)
                       show Value.bool (!m.closed) = _
                       cases hc : m.closed with
                       | false => exact Chan.isvalid (fin hS (fun _ => ⟨hi, hc⟩))
                       | true => exact Chan.invalid (fun hv => by have := (hv.ge hg).2; rw [hc] at this; cases this)
                     · have hi : m.items ≠ [] := by simpa using q6
                       exact ret0 ⟨rfl, rfl⟩ (fun _ => Chan.invalid (fun hv => hi (hv.ge hg).1))
set_option maxHeartbeats 4000000 in
set_option maxRecDepth 100000 in
theorem onceValidS_c (m : Once) (q : Sl) (w : World) (h : At w [slo q cInt 1 m.waits]) (hb : m.waits.length ≤ 1048576) :
   Calls Tryz.prog 160 #[onceV m q] w (Tells w (OnceOk m)) := by
 refine calls1 Tryz.func160 rfl tabOk w _ rfl _ rfl _ h ⟨rfl, rfl, trivial⟩ _ (by decide) ?_
 refine CaseB.mk (fun k => ?_) (fun k0 => ?_)
 · have hx := onceOk0 (m := m) z103
   apply CaseB.mk <;> intro g
   rotate_left
   · have q : ¬ (m.owner = 0) := by simpa using g
     exact ret0 ⟨_, rfl, tno fun e => q (hx.1 e).1, rfl⟩ (fun _ => rfl)
   have c1 : m.owner = 0 := by simpa using g
   apply CaseB.mk <;> intro g
   rotate_left
   · have q : ¬ (m.value = 0) := by simpa using g
     exact ret0 ⟨_, rfl, tno fun e => q (hx.1 e).2.1, rfl⟩ (fun _ => rfl)
   have c2 : m.value = 0 := by simpa using g
   exact ret0 ⟨_, rfl, by rw [hx]; simp [c1, c2], rfl⟩ (fun _ => rfl)
 refine CaseB.mk (fun k => ?_) (fun k1 => ?_)
 · have hx := onceOk1 (m := m) z103
   refine stop_call _ cl181 rfl rfl rfl rfl ⟨rfl, rfl⟩ (fun A w hW => l1Thread_c _ w) ?_
   rintro v L ⟨rfl, rfl⟩
   apply CaseB.mk <;> intro g
   rotate_left
   · have q : ¬ (isThread m.owner = true) := by simpa using g
     exact ret0 ⟨_, rfl, tno fun e => q (hx.1 e).1, rfl⟩ (fun _ => rfl)
   have c1 : isThread m.owner = true := g
   apply CaseB.mk <;> intro g
   rotate_left
   · have q : ¬ (m.value = 0) := by simpa using g
     exact ret0 ⟨_, rfl, tno fun e => q (hx.1 e).2.1, rfl⟩ (fun _ => rfl)
   have c2 : m.value = 0 := by simpa using g
   refine stop_call _ cl199 rfl rfl rfl rfl ⟨rfl, rfl⟩ (fun A w hW => l2Waits_c q m.waits w ⟨z39, trivial⟩ (by omega)) ?_
   rintro v L ⟨rfl, rfl⟩
   apply CaseB.mk <;> intro g
   rotate_left
   · have q : ¬ (distinct m.waits = true) := by simpa using g
     exact ret0 ⟨_, rfl, tno fun e => q (hx.1 e).2.2.1, rfl⟩ (fun _ => rfl)
   have c3 : distinct m.waits = true := g
   refine stop_call _ cl51 rfl rfl rfl rfl ⟨rfl, rfl⟩ (fun A w hW => l2At_c q m.waits m.owner w ⟨z39, trivial⟩ (by omega)) ?_
   rintro v L ⟨rfl, rfl⟩
   have hm := atM_mem m.waits m.owner
   exact ret0 ⟨_, rfl, by rw [hx, ← hm]; simp [c1, c2, c3], rfl⟩ (fun _ => rfl)
 refine CaseB.mk (fun k => ?_) (fun k2 => ?_)
 · have hx := onceOk2 (m := m) z103
   refine stop_call _ cl181 rfl rfl rfl rfl ⟨rfl, rfl⟩ (fun A w hW => l1Thread_c _ w) ?_
   rintro v L ⟨rfl, rfl⟩
   apply CaseB.mk <;> intro g
   rotate_left
   · have q : ¬ (isThread m.owner = true) := by simpa using g
     exact ret0 ⟨_, rfl, tno fun e => q (hx.1 e).1, rfl⟩ (fun _ => rfl)
   have c1 : isThread m.owner = true := g
   refine stop_call _ cl96 rfl rfl rfl rfl ⟨rfl, rfl⟩ (fun A w hW => l2Value_c _ w) ?_
   rintro v L ⟨rfl, rfl⟩
   apply CaseB.mk <;> intro g
   rotate_left
   · have q : ¬ (isValue m.value = true) := by simpa using g
     exact ret0 ⟨_, rfl, tno fun e => q (hx.1 e).2.1, rfl⟩ (fun _ => rfl)
   have c2 : isValue m.value = true := g
   exact ret0 ⟨_, rfl, by rw [hx]; simp [c1, c2], rfl⟩ (fun _ => rfl)
 exact ret0 ⟨_, rfl, tno (onceOkN (by simpa using k0) (by simpa using k1) (by simpa using k2)), rfl⟩ (fun _ => rfl)
set_option maxRecDepth 100000 in
theorem groupValidS_c (m : Group) (q : Sl) (w : World) (h : At w [slo q cInt 1 m.waits]) (hb : m.waits.length ≤ 1048576) :
   Calls Tryz.prog 161 #[groupV m q] w (Tells w (GroupOk m)) := by
 refine calls1 Tryz.func161 rfl tabOk w _ rfl _ rfl _ h ⟨rfl, rfl, trivial⟩ _ (by decide) ?_
 refine stop_call _ cl96 rfl rfl rfl rfl ⟨rfl, rfl⟩ (fun A w hW => l2Value_c _ w) ?_
 rintro v L ⟨rfl, rfl⟩
 apply CaseB.mk <;> intro g
 rotate_left
 · have q : ¬ (isValue m.count = true) := by simpa using g
   exact ret0 ⟨_, rfl, tno fun e => q e.1, rfl⟩ (fun _ => rfl)
 have c1 : isValue m.count = true := g
 refine stop_call _ cl199 rfl rfl rfl rfl ⟨rfl, rfl⟩ (fun A w hW => l2Waits_c q m.waits w ⟨z39, trivial⟩ (by omega)) ?_
 rintro v L ⟨rfl, rfl⟩
 apply CaseB.mk <;> intro g
 rotate_left
 · have q : ¬ (distinct m.waits = true) := by simpa using g
   exact ret0 ⟨_, rfl, tno fun e => q e.2.1, rfl⟩ (fun _ => rfl)
 have c2 : distinct m.waits = true := g
 apply CaseB.mk <;> intro g
 · have c3 : 0 < m.count := by have g' := of_decide_eq_true g; omega
   exact ret0 ⟨_, rfl, tyes ⟨c1, c2, .inl c3⟩, rfl⟩ (fun _ => rfl)
 · have c3 : ¬ 0 < m.count := by have g' := of_decide_eq_false g; omega
   exact ret0 ⟨_, rfl, by simp [GroupOk, c1, c2, c3], rfl⟩ (fun _ => rfl)
set_option maxRecDepth 100000 in
theorem barrierValidS_c (m : Barrier) (q : Sl) (w : World) (h : At w [slo q cInt 1 m.waits]) (hb : m.waits.length ≤ 1048576) :
   Calls Tryz.prog 162 #[barrierV m q] w (Tells w (BarrierOk m)) := by
 refine calls1 Tryz.func162 rfl tabOk w _ rfl _ rfl _ h ⟨rfl, rfl, trivial⟩ _ (by decide) ?_
 apply CaseB.mk <;> intro g
 rotate_left
 · have q : ¬ (1 ≤ m.parties) := by have g' := of_decide_eq_false g; omega
   exact ret0 ⟨_, rfl, tno fun e => q e.1, rfl⟩ (fun _ => rfl)
 have c1 : 1 ≤ m.parties := by have g' := of_decide_eq_true g; omega
 apply CaseB.mk <;> intro g
 rotate_left
 · have q : ¬ (m.parties ≤ 6) := by have g' := of_decide_eq_false g; omega
   exact ret0 ⟨_, rfl, tno fun e => q e.2.1, rfl⟩ (fun _ => rfl)
 have c2 : m.parties ≤ 6 := by have g' := of_decide_eq_true g; omega
 apply CaseB.mk <;> intro g
 rotate_left
 · have q : ¬ (0 ≤ m.round) := by have g' := of_decide_eq_false g; omega
   exact ret0 ⟨_, rfl, tno fun e => q e.2.2.1, rfl⟩ (fun _ => rfl)
 have c3 : 0 ≤ m.round := by have g' := of_decide_eq_true g; omega
 apply CaseB.mk <;> intro g
 rotate_left
 · have q : ¬ (m.round ≤ 9999) := by have g' := of_decide_eq_false g; omega
   exact ret0 ⟨_, rfl, tno fun e => q e.2.2.2.1, rfl⟩ (fun _ => rfl)
 have c4 : m.round ≤ 9999 := by have g' := of_decide_eq_true g; omega
 refine stop_call _ cl199 rfl rfl rfl rfl ⟨rfl, rfl⟩ (fun A w hW => l2Waits_c q m.waits w ⟨z39, trivial⟩ (by omega)) ?_
 rintro v L ⟨rfl, rfl⟩
 apply CaseB.mk <;> intro g
 rotate_left
 · have q : ¬ (distinct m.waits = true) := by simpa using g
   exact ret0 ⟨_, rfl, tno fun e => q e.2.2.2.2.2, rfl⟩ (fun _ => rfl)
 have c6 : distinct m.waits = true := g
 exact ret0 ⟨_, rfl, by simp [BarrierOk, c1, c2, c3, c4, c6], rfl⟩ (fun _ => rfl)
set_option maxHeartbeats 4000000 in
set_option maxRecDepth 100000 in
theorem semValidS_c (m : Sem) (q : Sl) (w : World) (h : At w [slo q cWaiter 2 m.queue]) (hb : m.queue.length ≤ 1048576) :
   Calls Tryz.prog 159 #[semV m q] w (Tells w (SemOk m)) := by
 refine calls1 Tryz.func159 rfl tabOk w _ rfl _ rfl _ h ⟨rfl, rfl, trivial⟩ _ (by decide) ?_
 apply CaseB.mk <;> intro g
 · have q : ¬ (1 ≤ m.limit) := by have g' := of_decide_eq_true g; omega
   exact ret0 ⟨_, rfl, tno fun e => q e.l1, rfl⟩ (fun _ => rfl)
 have c1 : 1 ≤ m.limit := by have g' := of_decide_eq_false g; omega
 apply CaseB.mk <;> intro g
 · have q : ¬ (m.limit ≤ 9) := by have g' := of_decide_eq_true g; omega
   exact ret0 ⟨_, rfl, tno fun e => q e.l9, rfl⟩ (fun _ => rfl)
 have c2 : m.limit ≤ 9 := by have g' := of_decide_eq_false g; omega
 apply CaseB.mk <;> intro g
 · have q : ¬ (0 ≤ m.free) := by have g' := of_decide_eq_true g; omega
   exact ret0 ⟨_, rfl, tno fun e => q e.f0, rfl⟩ (fun _ => rfl)
 have c3 : 0 ≤ m.free := by have g' := of_decide_eq_false g; omega
 apply CaseB.mk <;> intro g
 · have q : ¬ (m.free ≤ m.limit) := by have g' := of_decide_eq_true g; omega
   exact ret0 ⟨_, rfl, tno fun e => q e.fl, rfl⟩ (fun _ => rfl)
 have c4 : m.free ≤ m.limit := by have g' := of_decide_eq_false g; omega
 apply CaseB.mk <;> intro g
 · have q : ¬ (m.queue.length ≤ 6) := by have g' := of_decide_eq_true g; omega
   exact ret0 ⟨_, rfl, tno fun e => q e.q6, rfl⟩ (fun _ => rfl)
 have c5 : m.queue.length ≤ 6 := by have g' := of_decide_eq_false g; omega
 refine LoopW.mk ⟨{ k : Nat // k ≤ m.queue.length ∧ (∀ w ∈ m.queue.take k, 1 ≤ w.n ∧ w.n ≤ m.limit) ∧ distinct ((m.queue.map (·.t)).take k) = true },
   fun p => .mk [(1, .p 0 0), (3, .v (.int .i64 (p.1 : Int)))] 1 0 [(0, 95, 3)] [((0, 0), .v (.int .i64 m.free)), ((0, 1), .v (.int .i64 m.limit)), ((0, 2), .v (q.val m.queue.length))] [slo q cWaiter 2 m.queue],
   fun p => m.queue.length - p.1, ⟨0, Nat.zero_le _, by simp, by simp [distinct]⟩, ?_, ?_⟩
 · exact weak_mk [0] zw2 zw0 zw2 zw5 zw4 rfl rfl
 rintro ⟨k, hk, hinv, hdi⟩
 apply CaseB.mk <;> intro g
 · have hlt : k < m.queue.length := by simpa using g
   have hltm : k < (m.queue.map (·.t)).length := by simpa using hlt
   have hw := wrapN k _ hlt (by omega)
   have hsub : distinct (m.queue.map (·.t)) = true → isThread (m.queue[k]).t = true ∧ (m.queue[k]).t ∉ (m.queue.map (·.t)).take k := fun e => by
     simp only [distinct, decide_eq_true_eq] at e
     refine ⟨e.2 _ (List.mem_map_of_mem (List.getElem_mem hlt)), fun hm => ?_⟩
     have hn := e.1
     rw [← List.take_append_drop k (m.queue.map (·.t)), List.nodup_append] at hn
     refine hn.2.2 _ hm _ ?_ rfl
     rw [List.drop_eq_getElem_cons hltm]
     simp
   refine stop_idx encWaiter tabOk rfl rfl rfl rfl rfl ⟨rfl, rfl⟩ (rdAt 0 rfl) k rfl z47 (fun ad => ?_)
   refine stop_call _ cl181 rfl rfl rfl rfl ⟨rfl, rfl⟩ (fun A w hW => l1Thread_c _ w) ?_
   rintro v L ⟨rfl, rfl⟩
   apply CaseB.mk <;> intro g
   · exact ret0 ⟨_, rfl, tno fun e => (by rw [(hsub e.dis).1] at g; cases g), rfl⟩ (fun _ => rfl)
   have d0 : isThread (m.queue[k]).t = true := by simpa using g
   apply CaseB.mk <;> intro g
   · have q : ¬ (1 ≤ (m.queue[k]).n) := by have g' := of_decide_eq_true g; omega
     exact ret0 ⟨_, rfl, tno fun e => q (e.cnt _ (List.getElem_mem hlt)).1, rfl⟩ (fun _ => rfl)
   have d1 : 1 ≤ (m.queue[k]).n := by have g' := of_decide_eq_false g; omega
   apply CaseB.mk <;> intro g
   · have q : ¬ ((m.queue[k]).n ≤ m.limit) := by have g' := of_decide_eq_true g; omega
     exact ret0 ⟨_, rfl, tno fun e => q (e.cnt _ (List.getElem_mem hlt)).2, rfl⟩ (fun _ => rfl)
   have d2 : (m.queue[k]).n ≤ m.limit := by have g' := of_decide_eq_false g; omega
   refine LoopW.mk ⟨{ j : Nat // j ≤ k ∧ (m.queue[k]).t ∉ (m.queue.map (·.t)).take j },
     fun j => .mk [(1, .p 0 0), (3, .v (.int .i64 (k : Int))), (4, .p 1 0), (5, .v (.int .i64 (j.1 : Int)))] 2 0 [(0, 95, 3), (1, 193, 2)] [((0, 0), .v (.int .i64 m.free)), ((0, 1), .v (.int .i64 m.limit)), ((0, 2), .v (q.val m.queue.length)), ((1, 0), .v (.int .i64 (m.queue[k]).t))] [slo q cWaiter 2 m.queue],
     fun j => k - j.1, ⟨0, Nat.zero_le _, by simp⟩, ?_, ?_⟩
   · exact weak_mk [0] zw2 zw0 zw2 zw5 zw4 rfl rfl
   rintro ⟨j, hj, hnm⟩
   apply CaseB.mk <;> intro g
   · have hlj : j < k := by simpa using g
     have hlj2 : j < m.queue.length := by omega
     have hwj := wrapN j k hlj (by omega)
     refine draw_start tabOk z107 z107 z107 200 [((0, 0), .v (.int .i64 m.free)), ((0, 1), .v (.int .i64 m.limit)), ((0, 2), .v (q.val m.queue.length)), ((1, 0), .v (.int .i64 (m.queue[k]).t))] [0] [_] z126 z140 ⟨rfl, trivial⟩ rfl ?_
     refine d_idx (ti := tiOf tab) encWaiter tabOk rfl rfl rfl rfl rfl ⟨rfl, rfl⟩ (rdAt 0 rfl) j rfl z47 (fun ad2 => ?_)
     apply CaseB.mk <;> intro g
     · have q : (m.queue[j]).t = (m.queue[k]).t := by simpa using g
       refine ret0 ⟨_, rfl, tno fun e => (hsub e.dis).2 ?_, rfl⟩ (fun _ => rfl)
       rw [← q, List.mem_take_iff_getElem]
       exact ⟨j, by simp; omega, by simp⟩
     · have q : ¬ (m.queue[j]).t = (m.queue[k]).t := by simpa using g
       refine ⟨⟨j + 1, by omega, ?_⟩, ?_, by simp only; omega⟩
       · rw [List.take_succ_eq_append_getElem (by simpa using hlj2)]
         simp only [List.mem_append, List.mem_singleton, List.getElem_map, not_or]
         exact ⟨hnm, fun e => q e.symm⟩
       · exact weak_mk [0] zw9 zw0 zw9 zw5 zw19 rfl rfl
   have hjk : j = k := by have : ¬ (j : Int) < k := by simpa using g
                          omega
   subst hjk
   refine ⟨⟨j + 1, by omega, fun x hx => ?_, ?_⟩, ?_, by simp only; omega⟩
   · rw [List.take_succ_eq_append_getElem hlt] at hx
     rcases List.mem_append.1 hx with hx | hx
     · exact hinv x hx
     · simp at hx; subst hx; exact ⟨d1, d2⟩
   · rw [List.take_succ_eq_append_getElem hltm]
     simp only [distinct, decide_eq_true_eq] at hdi ⊢
     refine ⟨?_, fun x hx => ?_⟩
     · rw [List.nodup_append]
       refine ⟨hdi.1, by simp, fun a ha b hb => ?_⟩
       simp at hb; subst hb
       rintro rfl
       exact hnm ha
     · rcases List.mem_append.1 hx with hx | hx
       · exact hdi.2 x hx
       · simp at hx; subst hx; exact d0
   · exact weak_mk [0] zw1 zw0 zw1 zw5 zw3 rfl rfl
 have hge : m.queue.length ≤ k := by simpa using g
 rw [List.take_of_length_le hge] at hinv
 rw [List.take_of_length_le z97] at hdi
 refine draw_start tabOk z107 z107 z107 200 [((0, 0), .v (.int .i64 m.free)), ((0, 1), .v (.int .i64 m.limit)), ((0, 2), .v (q.val m.queue.length))] [0] [_] z132 z144 ⟨rfl, trivial⟩ rfl ?_
 apply CaseB.mk <;> intro g
 · have c7 : m.queue = [] := by simpa using g
   exact ret0 ⟨_, rfl, tyes ⟨c1, c2, c3, c4, c5, hinv, hdi, by rw [c7]; simp⟩, rfl⟩ (fun _ => rfl)
 have c7 : 0 < m.queue.length := by have g' : ¬ m.queue = [] := by simpa using g
                                    exact List.length_pos_iff.2 g'
 refine d_idx (ti := tiOf tab) encWaiter tabOk rfl rfl rfl rfl rfl ⟨rfl, rfl⟩ (rdAt 0 rfl) 0 rfl z47 (fun ad => ?_)
 refine ret0 ⟨_, rfl, ?_, rfl⟩ (fun _ => rfl)
 have hh : ∀ w, m.queue[0]? = some w → w = m.queue[0] := fun w hw => by rw [List.getElem?_eq_getElem c7] at hw; injection hw with hw; exact hw.symm
 constructor
 · intro g
   have g' := of_decide_eq_true g
   exact ⟨c1, c2, c3, c4, c5, hinv, hdi, fun w hw => by rw [hh w hw]; omega⟩
 · intro e
   have := e.hd _ (List.getElem?_eq_getElem c7)
   exact decide_eq_true (by omega)
def l6Words : List ByteArray := [⟨#[]⟩, ⟨#[115, 97, 121]⟩, ⟨#[97, 99, 113, 117, 105, 114, 101]⟩, ⟨#[114, 101, 108, 101, 97, 115, 101]⟩, ⟨#[111, 110, 99, 101]⟩, ⟨#[97, 100, 100]⟩, ⟨#[119, 97, 105, 116]⟩, ⟨#[97, 114, 114, 105, 118, 101]⟩, ⟨#[115, 101, 110, 100]⟩, ⟨#[103, 101, 116]⟩, ⟨#[99, 108, 111, 115, 101]⟩]
def cStr (b : ByteArray) : List Value := [.string b]
theorem encStr : Enc cStr 1 := ⟨fun _ => rfl, fun _ u hu => by simp [cStr] at hu; subst hu; rfl⟩
def wordOf (k : Int) : ByteArray := if 1 ≤ k ∧ k ≤ 10 then l6Words.getD k.toNat ⟨#[]⟩ else ⟨#[]⟩
theorem wordOf_empty (k : Int) : ((wordOf k).toList == (⟨#[]⟩ : ByteArray).toList) = true ↔ ¬ (1 ≤ k ∧ k ≤ 10) := by
 unfold wordOf
 by_cases h : 1 ≤ k ∧ k ≤ 10
 · rw [if_pos h]
   have : k = 1 ∨ k = 2 ∨ k = 3 ∨ k = 4 ∨ k = 5 ∨ k = 6 ∨ k = 7 ∨ k = 8 ∨ k = 9 ∨ k = 10 := by omega
   simp only [h, and_self, not_true_eq_false, iff_false]
   rw [← beq_toListBytes]
   rcases this with rfl | rfl | rfl | rfl | rfl | rfl | rfl | rfl | rfl | rfl <;> decide
 · rw [if_neg h]
   simp [h]
set_option maxHeartbeats 4000000 in
set_option maxRecDepth 100000 in
theorem l6Word_c (k : Int) (w : World) : Calls Tryz.prog 196 #[.int .i64 k] w (Ret w fun v L => v = .string (wordOf k) ∧ L = []) := by
 refine calls1 Tryz.func196 rfl tabOk w _ rfl _ rfl [] trivial trivial _ (by decide) ?_
 refine AllSl.mk fun y => ?_
 apply CaseB.mk <;> intro g
 · have q : ¬ (1 ≤ k ∧ k ≤ 10) := by simp at g; omega
   exact ret0 ⟨by rw [wordOf, if_neg q], rfl⟩ (fun _ => rfl)
 refine CaseB.mk (fun g2 => ?_) (fun g2 => ?_)
 · have q : ¬ (1 ≤ k ∧ k ≤ 10) := by simp at g2; omega
   exact ret0 ⟨by rw [wordOf, if_neg q], rfl⟩ (fun _ => rfl)
 have q : 1 ≤ k ∧ k ≤ 10 := by simp at g g2; omega
 have hlt : k.toNat < l6Words.length := by show k.toNat < 11; omega
 refine stop_idx encStr (xs := l6Words) tabOk rfl rfl rfl rfl rfl ⟨rfl, rfl⟩ (rdOwnAt 0 rfl) k.toNat (by omega) hlt (fun ad => ?_)
 exact ret0 ⟨by rw [wordOf, if_pos q]; simp [List.getD, hlt], rfl⟩ (fun _ => rfl)
set_option maxRecDepth 100000 in
theorem l6Numbers_c (i : Sl) (xs : List Int) (lo hi : Int) (w : World) (h : At w [slo i cInt 1 xs]) (hb : xs.length ≤ 4294967296) :
   Calls Tryz.prog 157 #[i.val xs.length, .int .i64 lo, .int .i64 hi] w (Tells w (within xs lo hi)) := by
 refine calls3 Tryz.func157 rfl tabOk w _ rfl _ rfl _ h ⟨rfl, rfl, trivial⟩ _ _ _ (by decide) ?_
 refine LoopW.mk ⟨{ k : Nat // k ≤ xs.length ∧ k ≤ 4 ∧ ∀ x ∈ xs.take k, lo ≤ x ∧ x ≤ hi },
   fun k => .mk [(0, .v (i.val xs.length)), (1, .v (.int .i64 lo)), (2, .v (.int .i64 hi)), (7, .v (.int .i64 (k.1 : Int)))] 0 0 [] [] [slo i cInt 1 xs],
   fun k => xs.length - k.1, ⟨0, Nat.zero_le _, by omega, by simp⟩, ?_, ?_⟩
 · exact weak_mk [0] zw2 zw0 zw2 zw5 zw4 rfl rfl
 rintro ⟨k, hk, h4, hinv⟩
 apply CaseB.mk <;> intro g
 · have hlt : k < xs.length := by simpa using g
   apply CaseB.mk <;> intro g
   · have h3 : k ≤ 3 := by simp at g; omega
     refine stop_idx encInt tabOk rfl rfl rfl rfl rfl ⟨rfl, rfl⟩ z40 k rfl z47 (fun ad => ?_)
     apply CaseB.mk <;> intro g
     · have q : xs[k] < lo := by simpa using g
       exact ret0 ⟨_, rfl, tno fun e => by have := (e.2 _ (List.getElem_mem hlt)).1; omega, rfl⟩ (fun _ => rfl)
     have q1 : ¬ xs[k] < lo := by simpa using g
     refine stop_idx encInt tabOk rfl rfl rfl rfl rfl ⟨rfl, rfl⟩ z40 k rfl z47 (fun ad2 => ?_)
     apply CaseB.mk <;> intro g
     · have q : hi < xs[k] := by simpa using g
       exact ret0 ⟨_, rfl, tno fun e => by have := (e.2 _ (List.getElem_mem hlt)).2; omega, rfl⟩ (fun _ => rfl)
     have q2 : ¬ hi < xs[k] := by simpa using g
     have hw := e_succ k _ hlt (by omega)
     refine ⟨⟨k + 1, by omega, by omega, fun x hx => ?_⟩, ?_, by simp; omega⟩
     · rw [List.take_succ_eq_append_getElem hlt] at hx
       rcases List.mem_append.1 hx with hx | hx
       · exact hinv x hx
       · simp at hx; subst hx; omega
     · exact weak_mk [0] zw1 zw0 zw1 zw5 zw3 rfl rfl
   · have h3 : ¬ k ≤ 3 := by simp at g; omega
     have : ¬ xs.length ≤ 3 := by omega
     exact ret0 ⟨_, rfl, by simp [within]; omega, rfl⟩ (fun _ => rfl)
 · have hge : xs.length ≤ k := by simpa using g
   rw [List.take_of_length_le hge] at hinv
   refine ret0 ⟨_, rfl, ?_, rfl⟩ (fun _ => rfl)
   simp only [within, decide_eq_true_eq]
   exact ⟨fun e => ⟨by omega, hinv⟩, fun e => by have := e.1; omega⟩
set_option maxRecDepth 100000 in
theorem l6Shared_c (p : ProgH) (k : Int) (w : World) : Calls Tryz.prog 197 #[progV p, .int .i64 k] w (Ret w fun v L => v = .int .i64 (p.pure.shared k) ∧ L = []) := by
 have t : p.pure.sems = p.sems ∧ p.pure.groups = p.groups ∧ p.pure.barriers = p.barriers ∧ p.pure.rooms = p.rooms := ⟨rfl, rfl, rfl, rfl⟩
 refine calls2 Tryz.func197 rfl tabOk w _ rfl _ rfl [] trivial trivial _ _ (by decide) ?_
 refine CaseB.mk (fun k1 => ?_) (fun k1 => ?_)
 · have q1 : k = 1 := by simpa using k1
   exact ret0 ⟨by simp [Prog.shared, q1], rfl⟩ (fun _ => rfl)
 have q1 : ¬ k = 1 := by simpa using k1
 refine CaseB.mk (fun k2 => ?_) (fun k2 => ?_)
 · have q2 : k = 2 := by simpa using k2
   refine CaseB.mk (fun _ => ?_) (fun g => by rw [k2] at g; cases g)
   exact ret0 ⟨by simp [Prog.shared, t, q2], rfl⟩ (fun _ => rfl)
 have q2 : ¬ k = 2 := by simpa using k2
 refine CaseB.mk (fun k3 => ?_) (fun k3 => ?_)
 · have q3 : k = 3 := by simpa using k3
   exact ret0 ⟨by simp [Prog.shared, t, q3], rfl⟩ (fun _ => rfl)
 have q3 : ¬ k = 3 := by simpa using k3
 refine CaseB.mk (fun k4 => ?_) (fun k4 => ?_)
 · have q4 : k = 4 := by simpa using k4
   exact ret0 ⟨by simp [Prog.shared, q4], rfl⟩ (fun _ => rfl)
 have q4 : ¬ k = 4 := by simpa using k4
 refine CaseB.mk (fun k5 => ?_) (fun k5 => ?_)
 · have q5 : k = 5 := by simpa using k5
   refine CaseB.mk (fun _ => ?_) (fun g => by rw [k5] at g; cases g)
   exact ret0 ⟨by simp [Prog.shared, t, q5], rfl⟩ (fun _ => rfl)
 have q5 : ¬ k = 5 := by simpa using k5
 refine CaseB.mk (fun k6 => ?_) (fun k6 => ?_)
 · have q6 : k = 6 := by simpa using k6
   exact ret0 ⟨by simp [Prog.shared, t, q6], rfl⟩ (fun _ => rfl)
 have q6 : ¬ k = 6 := by simpa using k6
 refine CaseB.mk (fun k7 => ?_) (fun k7 => ?_)
 · have q7 : k = 7 := by simpa using k7
   exact ret0 ⟨by simp [Prog.shared, t, q7], rfl⟩ (fun _ => rfl)
 have q7 : ¬ k = 7 := by simpa using k7
 exact ret0 ⟨by simp [Prog.shared, t, q1, q2, q3, q4, q5, q6, q7], rfl⟩ (fun _ => rfl)
set_option maxRecDepth 100000 in
theorem l6Arg_c (p : ProgH) (o : Op) (w : World) (h : At w [fR (progO p)]) (h0 : 0 ≤ o.on) (h1 : o.on < p.pure.shared o.kind) :
   Calls Tryz.prog 198 #[progV p, .agg (cOp o).toArray] w (Tells w (p.pure.argOk o)) := by
 refine calls2 Tryz.func198 rfl tabOk w _ rfl _ rfl _ h ⟨rfl, rfl, trivial⟩ _ _ (by decide) ?_
 refine CaseB.mk (fun k2 => ?_) (fun k2 => ?_)
 · refine CaseB.mk (fun _ => ?_) (fun g => by rw [k2] at g; cases g)
   have q : o.kind = 2 := by simpa using k2
   have hs : o.on < (p.sems.length : Int) := by simpa [Prog.shared, q, ProgH.pure] using h1
   have hlt : o.on.toNat < p.sems.length := by omega
   have e : p.pure.sems.getD o.on.toNat 0 = p.sems[o.on.toNat] := by simp [ProgH.pure, List.getD, hlt]
   have hx : p.pure.argOk o ↔ 1 ≤ o.arg ∧ o.arg ≤ p.sems[o.on.toNat] := by rw [← e]; simp [Prog.argOk, q]
   refine draw_start tabOk z107 z107 z107 200 [((0, 0), .v (p.h0.val p.sems.length)), ((1, 0), .v (.int .i64 o.kind)), ((1, 1), .v (.int .i64 o.on)), ((1, 2), .v (.int .i64 o.arg))] [0] [_] z126 z140 ⟨rfl, trivial⟩ rfl ?_
   apply CaseB.mk <;> intro g
   · have c : 1 ≤ o.arg := by simp at g; omega
     refine d_idx (ti := tiOf tab) encInt tabOk rfl rfl rfl rfl rfl ⟨rfl, rfl⟩ (rdVia 0 rfl (.ofR (progO_sems p))) o.on.toNat (by omega) z47 (fun ad => ?_)
     exact ret0 ⟨_, rfl, by rw [hx]; simp [c], rfl⟩ (fun _ => rfl)
   · have c : ¬ 1 ≤ o.arg := by simp at g; omega
     exact ret0 ⟨_, rfl, tno fun e => c (hx.1 e).1, rfl⟩ (fun _ => rfl)
 refine CaseB.mk (fun k3 => ?_) (fun k3 => ?_)
 · skip
   have q : o.kind = 3 := by simpa using k3
   have hs : o.on < (p.sems.length : Int) := by simpa [Prog.shared, q, ProgH.pure] using h1
   have hlt : o.on.toNat < p.sems.length := by omega
   have e : p.pure.sems.getD o.on.toNat 0 = p.sems[o.on.toNat] := by simp [ProgH.pure, List.getD, hlt]
   have hx : p.pure.argOk o ↔ 1 ≤ o.arg ∧ o.arg ≤ p.sems[o.on.toNat] := by rw [← e]; simp [Prog.argOk, q]
   refine draw_start tabOk z107 z107 z107 200 [((0, 0), .v (p.h0.val p.sems.length)), ((1, 0), .v (.int .i64 o.kind)), ((1, 1), .v (.int .i64 o.on)), ((1, 2), .v (.int .i64 o.arg))] [0] [_] z126 z140 ⟨rfl, trivial⟩ rfl ?_
   apply CaseB.mk <;> intro g
   · have c : 1 ≤ o.arg := by simp at g; omega
     refine d_idx (ti := tiOf tab) encInt tabOk rfl rfl rfl rfl rfl ⟨rfl, rfl⟩ (rdVia 0 rfl (.ofR (progO_sems p))) o.on.toNat (by omega) z47 (fun ad => ?_)
     exact ret0 ⟨_, rfl, by rw [hx]; simp [c], rfl⟩ (fun _ => rfl)
   · have c : ¬ 1 ≤ o.arg := by simp at g; omega
     exact ret0 ⟨_, rfl, tno fun e => c (hx.1 e).1, rfl⟩ (fun _ => rfl)
 have n2 : ¬ o.kind = 2 := by simpa using k2
 have n3 : ¬ o.kind = 3 := by simpa using k3
 refine CaseB.mk (fun k5 => ?_) (fun k5 => ?_)
 · have q : o.kind = 5 := by simpa using k5
   have hx : p.pure.argOk o ↔ -9 ≤ o.arg ∧ o.arg ≤ 9 := by simp [Prog.argOk, q]
   apply CaseB.mk <;> intro g
   · have c : -9 ≤ o.arg := by simp at g; omega
     exact ret0 ⟨_, rfl, by rw [hx]; simp [c], rfl⟩ (fun _ => rfl)
   · have c : ¬ -9 ≤ o.arg := by simp at g; omega
     exact ret0 ⟨_, rfl, tno fun e => c (hx.1 e).1, rfl⟩ (fun _ => rfl)
 have n5 : ¬ o.kind = 5 := by simpa using k5
 refine CaseB.mk (fun k1 => ?_) (fun k1 => ?_)
 · have q : o.kind = 1 := by simpa using k1
   have hx : p.pure.argOk o ↔ isValue o.arg = true := by simp [Prog.argOk, q]
   refine CaseB.mk (fun _ => ?_) (fun g => by rw [k1] at g; cases g)
   refine stop_call _ cl96 rfl rfl rfl rfl ⟨rfl, rfl⟩ (fun A w hW => l2Value_c _ w) ?_
   rintro v L ⟨rfl, rfl⟩
   exact ret0 ⟨_, rfl, by rw [hx], rfl⟩ (fun _ => rfl)
 have n1 : ¬ o.kind = 1 := by simpa using k1
 refine CaseB.mk (fun k4 => ?_) (fun k4 => ?_)
 · have q : o.kind = 4 := by simpa using k4
   have hx : p.pure.argOk o ↔ isValue o.arg = true := by simp [Prog.argOk, q]
   refine CaseB.mk (fun _ => ?_) (fun g => by rw [k4] at g; cases g)
   refine stop_call _ cl96 rfl rfl rfl rfl ⟨rfl, rfl⟩ (fun A w hW => l2Value_c _ w) ?_
   rintro v L ⟨rfl, rfl⟩
   exact ret0 ⟨_, rfl, by rw [hx], rfl⟩ (fun _ => rfl)
 have n4 : ¬ o.kind = 4 := by simpa using k4
 refine CaseB.mk (fun k8 => ?_) (fun k8 => ?_)
 · have q : o.kind = 8 := by simpa using k8
   have hx : p.pure.argOk o ↔ isValue o.arg = true := by simp [Prog.argOk, q]
   refine stop_call _ cl96 rfl rfl rfl rfl ⟨rfl, rfl⟩ (fun A w hW => l2Value_c _ w) ?_
   rintro v L ⟨rfl, rfl⟩
   exact ret0 ⟨_, rfl, by rw [hx], rfl⟩ (fun _ => rfl)
 have n8 : ¬ o.kind = 8 := by simpa using k8
 have hx : p.pure.argOk o ↔ o.arg = 0 := by simp [Prog.argOk, n1, n2, n3, n4, n5, n8]
 exact ret0 ⟨_, rfl, by rw [hx]; simp, rfl⟩ (fun _ => rfl)
set_option maxHeartbeats 4000000 in
set_option maxRecDepth 100000 in
theorem opValidS_c (p : ProgH) (o : Op) (w : World) (h : At w [fR (progO p)]) :
   Calls Tryz.prog 158 #[progV p, .agg (cOp o).toArray] w (Tells w (OpOk p.pure o)) := by
 refine calls2 Tryz.func158 rfl tabOk w _ rfl _ rfl _ h ⟨rfl, rfl, trivial⟩ _ _ (by decide) ?_
 refine draw_start tabOk z107 z107 z107 200 [((0, 0), .v (p.h0.val p.sems.length)), ((0, 1), .v (p.h1.val p.groups.length)), ((0, 2), .v (p.h2.val p.barriers.length)), ((0, 3), .v (p.h3.val p.rooms.length)), ((0, 4), .v (p.h4.val p.threads.length)), ((1, 0), .v (.int .i64 o.kind)), ((1, 1), .v (.int .i64 o.on)), ((1, 2), .v (.int .i64 o.arg))] [0] [_] ⟨⟨_, rfl, rfl, z79⟩, ⟨_, rfl, rfl, z79⟩, ⟨_, rfl, rfl, z79⟩, ⟨_, rfl, rfl, z79⟩, ⟨_, rfl, rfl, z79⟩, ⟨_, rfl, rfl, z79⟩, ⟨_, rfl, rfl, z79⟩, ⟨_, rfl, rfl, z79⟩, trivial⟩ ⟨⟨_, rfl⟩, ⟨_, rfl⟩, ⟨_, rfl⟩, ⟨_, rfl⟩, ⟨_, rfl⟩, ⟨_, rfl⟩, ⟨_, rfl⟩, ⟨_, rfl⟩, trivial⟩ ⟨rfl, trivial⟩ rfl ?_
 refine d_call _ cl196 rfl rfl rfl rfl ⟨rfl, rfl⟩ (fun A w hW => l6Word_c _ w) ?_
 rintro v L ⟨rfl, rfl⟩
 refine d_bin rfl rfl rfl ⟨rfl, rfl⟩ (.bool ((wordOf o.kind).toList == (⟨#[]⟩ : ByteArray).toList)) (fun w => (eqGuard_str w)) (fun w => (eql_str w)) ?_
 apply CaseB.mk <;> intro g
 · have q := (wordOf_empty o.kind).1 g
   exact ret0 ⟨_, rfl, tno fun e => q ⟨e.1, e.2.1⟩, rfl⟩ (fun _ => rfl)
 have q : 1 ≤ o.kind ∧ o.kind ≤ 10 := by
   refine Classical.byContradiction fun n => ?_
   rw [(wordOf_empty o.kind).2 n] at g
   cases g
 apply CaseB.mk <;> intro g
 · have c : ¬ 0 ≤ o.on := by simp at g; omega
   exact ret0 ⟨_, rfl, tno fun e => c e.2.2.1, rfl⟩ (fun _ => rfl)
 have c0 : 0 ≤ o.on := by simp at g; omega
 refine d_call _ cl197 rfl rfl rfl rfl ⟨rfl, rfl⟩ (fun A w hW => l6Shared_c p _ w) ?_
 rintro v L ⟨rfl, rfl⟩
 apply CaseB.mk <;> intro g
 · have c : ¬ o.on < p.pure.shared o.kind := by simp at g; omega
   exact ret0 ⟨_, rfl, tno fun e => c e.2.2.2.1, rfl⟩ (fun _ => rfl)
 have c1 : o.on < p.pure.shared o.kind := by simp at g; omega
 refine stop_call _ cl198 rfl rfl rfl rfl ⟨rfl, rfl⟩ (fun A w hW => l6Arg_c p o w ⟨hW.get 0 rfl (.refl _), trivial⟩ c0 c1) ?_
 rintro v L ⟨b, rfl, hb, rfl⟩
 exact ret0 ⟨_, rfl, by rw [hb]; simp [OpOk, q, c0, c1], rfl⟩ (fun _ => rfl)
set_option maxHeartbeats 16000000 in
set_option maxRecDepth 100000 in
theorem progValidS_c (p : ProgH) (w : World) (h : At w [fR (progO p)]) (hs : p.sems.length ≤ 1048576 ∧ p.groups.length ≤ 1048576 ∧ p.barriers.length ≤ 1048576 ∧ p.rooms.length ≤ 1048576) :
   Calls Tryz.prog 94 #[progV p] w (Tells w (ProgOk p.pure)) := by
 refine calls1 Tryz.func94 rfl tabOk w _ rfl _ rfl _ h ⟨rfl, rfl, trivial⟩ _ (by decide) ?_
 refine stop_call _ cl157 rfl rfl rfl rfl ⟨rfl, rfl⟩ (fun A w hW => l6Numbers_c p.h0 p.sems 1 9 w ⟨hW.get 0 rfl (.ofR (progO_sems p)), trivial⟩ (by omega)) ?_
 rintro v L ⟨b0, rfl, hb0, rfl⟩
 apply CaseB.mk <;> intro g
 · exact ret0 ⟨_, rfl, tno fun e => (by have := hb0.2 e.sems; rw [this] at g; cases g), rfl⟩ (fun _ => rfl)
 have w0 := hb0.1 z104
 refine stop_call _ cl157 rfl rfl rfl rfl ⟨rfl, rfl⟩ (fun A w hW => l6Numbers_c p.h1 p.groups 0 9 w ⟨hW.get 0 rfl (.ofR (progO_groups p)), trivial⟩ (by omega)) ?_
 rintro v L ⟨b1, rfl, hb1, rfl⟩
 apply CaseB.mk <;> intro g
 · exact ret0 ⟨_, rfl, tno fun e => (by have := hb1.2 e.groups; rw [this] at g; cases g), rfl⟩ (fun _ => rfl)
 have w1 := hb1.1 z104
 refine stop_call _ cl157 rfl rfl rfl rfl ⟨rfl, rfl⟩ (fun A w hW => l6Numbers_c p.h2 p.barriers 1 6 w ⟨hW.get 0 rfl (.ofR (progO_barriers p)), trivial⟩ (by omega)) ?_
 rintro v L ⟨b2, rfl, hb2, rfl⟩
 apply CaseB.mk <;> intro g
 · exact ret0 ⟨_, rfl, tno fun e => (by have := hb2.2 e.barriers; rw [this] at g; cases g), rfl⟩ (fun _ => rfl)
 have w2 := hb2.1 z104
 refine stop_call _ cl157 rfl rfl rfl rfl ⟨rfl, rfl⟩ (fun A w hW => l6Numbers_c p.h3 p.rooms 0 4 w ⟨hW.get 0 rfl (.ofR (progO_rooms p)), trivial⟩ (by omega)) ?_
 rintro v L ⟨b3, rfl, hb3, rfl⟩
 apply CaseB.mk <;> intro g
 · exact ret0 ⟨_, rfl, tno fun e => (by have := hb3.2 e.rooms; rw [this] at g; cases g), rfl⟩ (fun _ => rfl)
 have w3 := hb3.1 z104
 have hlen : p.pure.threads.length = p.threads.length := by simp [ProgH.pure]
 apply CaseB.mk <;> intro g
 · have q : ¬ 1 ≤ p.threads.length := by have g' := of_decide_eq_true g; omega
   exact ret0 ⟨_, rfl, tno fun e => q (hlen ▸ e.n1), rfl⟩ (fun _ => rfl)
 have n1 : 1 ≤ p.threads.length := by have g' := of_decide_eq_false g; omega
 apply CaseB.mk <;> intro g
 · have q : ¬ p.threads.length ≤ 4 := by simp at g; omega
   exact ret0 ⟨_, rfl, tno fun e => q (hlen ▸ e.n4), rfl⟩ (fun _ => rfl)
 have n4 : p.threads.length ≤ 4 := by simp at g; omega
 have hmem : ∀ (k : Nat) (hk : k < p.threads.length), (p.threads[k]).m ∈ p.pure.threads := fun k hk => List.mem_map_of_mem (List.getElem_mem hk)
 refine LoopW.mk ⟨{ k : Nat // k ≤ p.threads.length ∧ ∀ t ∈ p.pure.threads.take k, t.length ≤ 8 ∧ ∀ o ∈ t, OpOk p.pure o },
   fun k => .mk [(1, .p 0 0), (3, .v (.int .i64 (k.1 : Int)))] 1 0 [(0, 46, 5)] [((0, 0), .v (p.h0.val p.sems.length)), ((0, 1), .v (p.h1.val p.groups.length)), ((0, 2), .v (p.h2.val p.barriers.length)), ((0, 3), .v (p.h3.val p.rooms.length)), ((0, 4), .v (p.h4.val p.threads.length))] [fR (progO p)],
   fun k => p.threads.length - k.1, ⟨0, Nat.zero_le _, by simp⟩, ?_, ?_⟩
 · exact weak_mk [0] zw2 zw0 zw2 zw5 zw4 rfl rfl
 rintro ⟨k, hk, hinv⟩
 apply CaseB.mk <;> intro g
 · have hlt : k < p.threads.length := by simpa using g
   have hget : p.pure.threads[k]'(by rw [hlen]; exact hlt) = (p.threads[k]).m := by simp [ProgH.pure]
   refine LoopW.mk ⟨{ j : Nat // j ≤ (p.threads[k]).m.length ∧ j ≤ 9 ∧ ∀ o ∈ (p.threads[k]).m.take j, OpOk p.pure o },
     fun j => .mk [(1, .p 0 0), (3, .v (.int .i64 (k : Int))), (4, .v (.int .i64 (j.1 : Int)))] 1 0 [(0, 46, 5)] [((0, 0), .v (p.h0.val p.sems.length)), ((0, 1), .v (p.h1.val p.groups.length)), ((0, 2), .v (p.h2.val p.barriers.length)), ((0, 3), .v (p.h3.val p.rooms.length)), ((0, 4), .v (p.h4.val p.threads.length))] [fR (progO p)],
     fun j => (p.threads[k]).m.length - j.1, ⟨0, Nat.zero_le _, by omega, by simp⟩, ?_, ?_⟩
   · exact weak_mk [0] zw2 zw0 zw2 zw5 zw4 rfl rfl
   rintro ⟨j, hj, h9, hinv2⟩
   refine stop_idx encOpSH tabOk rfl rfl rfl rfl rfl ⟨rfl, rfl⟩ (rdVia 0 rfl (.trans (.R_R (progO_threads p)) (.ofR nest_h))) k rfl z47 (fun ad => ?_)
   have hend : ((p.threads[k]).m.length ≤ 8 → (p.threads[k]).m.length ≤ j) → (p.threads[k]).m.length ≤ 8 → ∀ t ∈ p.pure.threads.take (k + 1), t.length ≤ 8 ∧ ∀ o ∈ t, OpOk p.pure o := fun hge2 n8 t ht => by
     rw [List.take_succ_eq_append_getElem (by rw [hlen]; exact hlt)] at ht
     rcases List.mem_append.1 ht with ht | ht
     · exact hinv t ht
     · simp only [List.mem_singleton] at ht
       rw [hget] at ht
       subst ht
       exact ⟨n8, by rw [List.take_of_length_le (hge2 n8)] at hinv2; exact hinv2⟩
   have hw := e_succ k _ hlt (by omega)
   apply CaseB.mk <;> intro g
   · have hlj : j < (p.threads[k]).m.length := by simpa using g
     apply CaseB.mk <;> intro g
     · have h8 : j ≤ 8 := by simp at g; omega
       refine draw_start tabOk z107 z107 z107 200 [((0, 0), .v (p.h0.val p.sems.length)), ((0, 1), .v (p.h1.val p.groups.length)), ((0, 2), .v (p.h2.val p.barriers.length)), ((0, 3), .v (p.h3.val p.rooms.length)), ((0, 4), .v (p.h4.val p.threads.length))] [0] [_] z122 z136 ⟨rfl, trivial⟩ rfl ?_
       refine d_idx (ti := tiOf tab) encOpSH tabOk rfl rfl rfl rfl rfl ⟨rfl, rfl⟩ (rdVia 0 rfl (.trans (.R_R (progO_threads p)) (.ofR nest_h))) k rfl z47 (fun ad3 => ?_)
       refine d_idx (ti := tiOf tab) encOp tabOk rfl rfl rfl rfl rfl ⟨rfl, rfl⟩ (rdVia 0 rfl (.trans (.R_R (progO_threads p)) (.ofR (threadsO_0 _ _ k hlt)))) j rfl z47 (fun ad2 => ?_)
       refine d_call _ cl158 rfl rfl rfl rfl ⟨rfl, rfl⟩ (fun A w hW => opValidS_c p _ w ⟨hW.get 0 rfl (.refl _), trivial⟩) ?_
       rintro v L ⟨b, rfl, hb, rfl⟩
       apply CaseB.mk <;> intro g
       · exact ret0 ⟨_, rfl, tno fun e => z56, rfl⟩ (fun _ => rfl)
       have hw := e_succ j 9 (by omega) (by omega)
       refine ⟨⟨j + 1, by omega, by omega, fun o ho => ?_⟩, ?_, by simp; omega⟩
       · rw [List.take_succ_eq_append_getElem hlj] at ho
         rcases List.mem_append.1 ho with ho | ho
         · exact hinv2 o ho
         · simp at ho; subst ho; exact hb.1 z104
       · exact weak_mk [0] zw1 zw0 zw1 zw5 zw3 rfl rfl
     · have h8 : ¬ j ≤ 8 := by simp at g; omega
       refine stop_idx encOpSH tabOk rfl rfl rfl rfl rfl ⟨rfl, rfl⟩ (rdVia 0 rfl (.trans (.R_R (progO_threads p)) (.ofR nest_h))) k rfl z47 (fun ad4 => ?_)
       refine CaseB.mk (fun g => ?_) (fun g => by simp at g; omega)
       have q : ¬ (p.threads[k]).m.length ≤ 8 := by omega
       exact ret0 ⟨_, rfl, tno fun e => q (e.ops _ (hmem k hlt)).1, rfl⟩ (fun _ => rfl)
   have hge2 : (p.threads[k]).m.length ≤ j := by simpa using g
   refine stop_idx encOpSH tabOk rfl rfl rfl rfl rfl ⟨rfl, rfl⟩ (rdVia 0 rfl (.trans (.R_R (progO_threads p)) (.ofR nest_h))) k rfl z47 (fun ad4 => ?_)
   apply CaseB.mk <;> intro g
   · have q : ¬ (p.threads[k]).m.length ≤ 8 := by simp at g; omega
     exact ret0 ⟨_, rfl, tno fun e => q (e.ops _ (hmem k hlt)).1, rfl⟩ (fun _ => rfl)
   have n8 : (p.threads[k]).m.length ≤ 8 := by simp at g; omega
   refine ⟨⟨k + 1, by omega, hend (fun _ => hge2) n8⟩, ?_, by simp; omega⟩
   exact weak_mk [0] zw1 zw0 zw1 zw5 zw3 rfl rfl
 have hge : p.threads.length ≤ k := by simpa using g
 refine ret0 ⟨_, rfl, tyes ⟨w0, w1, w2, w3, by rw [hlen]; exact n1, by rw [hlen]; exact n4, fun t ht => ?_⟩, rfl⟩ (fun _ => rfl)
 rw [List.take_of_length_le (by rw [hlen]; exact hge)] at hinv
 exact hinv t ht
end Go.Proofs.YtklclbcckjhdpaaGreat
