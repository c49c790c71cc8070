/- FnChoicesZero: texts that its proof stands on, part 14. -/
import Derived.Test.YtijmjecehppbfaaGreatQChoicesZerom
namespace Go.Proofs.YtijmjecehppbfaaGreat
set_option maxRecDepth 100000
set_option maxHeartbeats 100000000
open Go Go.Sx Go.RowKit
theorem iK0 (s : Str) {a i : Nat} (h1 : a ≤ i) (h2 : i < s.length) : (s.drop a).take (i + 1 - a) = (s.drop a).take (i - a) ++ [s[i]] := by
 have e : i + 1 - a = (i - a) + 1 := by omega
 rw [e, List.take_succ_eq_append_getElem z87]
 congr 2
 rw [List.getElem_drop]
 congr 1
 omega
theorem dG0 (a b : UInt8) : ((a.toNat : Int) = (b.toNat : Int)) ↔ a = b := by
 constructor
 · intro h; exact UInt8.toNat_inj.1 (by omega)
 · intro h; rw [h]
theorem gP0 (s : Str) (c : UInt8) (w : World) (hb : s.length ≤ 1000000) :
   Calls Tryz.prog 153 #[.string (bs s), .int .u8 (c.toNat : Int)] w (Ret w fun v L => ∃ y : Sl, v = y.val (gL c s).length ∧ L = [own y 9 xR 1 (gL c s)]) := by
 refine bZ Tryz.func153 rfl aA w _ rfl _ rfl [] trivial trivial _ _ (by decide) ?_
 refine AllSl.mk fun y0 => ?_
 refine LoopW.mk ⟨{ q : Nat × Nat × Sl × List Str // (q.1 ≤ s.length → q.2.1 ≤ q.1 ∧ gL c s = q.2.2.2 ++ uR c ((s.drop q.2.1).take (q.1 - q.2.1)) (s.drop q.1)) ∧ (s.length < q.1 → q.1 = s.length + 1 ∧ q.2.2.2 = gL c s) ∧ q.2.1 ≤ s.length + 1 ∧ q.2.2.2.length ≤ q.1 },
   fun q => .mk [(0, .v (.string (bs s))), (1, .v (.int .u8 (c.toNat : Int))), (5, .v (q.1.2.2.1.val q.1.2.2.2.length)), (6, .v (.int .i64 (q.1.2.1 : Int))), (7, .v (.int .i64 (q.1.1 : Int)))] 0 0 [] [] [own q.1.2.2.1 9 xR 1 q.1.2.2.2],
   fun q => s.length + 1 - q.1.1, ⟨(0, 0, y0, []), fun _ => ⟨Nat.le_refl _, by simp [gL]⟩, fun h => z105, by simp, by simp⟩, ?_, ?_⟩
 · exact aC [0] zw2 zw0 zw2 zw5 zw4 rfl rfl
 rintro ⟨⟨i, a, y, out⟩, i1, i2, i3, i4⟩
 simp only at i1 i2 i3 i4 ⊢
 refine fJ aA rfl rfl rfl rfl rfl rfl ⟨rfl, rfl⟩ ?_
 apply CaseB.mk <;> intro g
 · have hi : i ≤ s.length := by have := of_decide_eq_true g; omega
   obtain ⟨ha, hc⟩ := i1 hi
   have hw := bE i (s.length + 1) (by omega) (by omega)
   refine fJ aA rfl rfl rfl rfl rfl rfl ⟨rfl, rfl⟩ ?_
   apply CaseB.mk <;> intro g
   · have hie : i = s.length := by have g' : (i : Int) = (s.length : Int) := z99; omega
     refine mJ aA rfl rfl rfl ⟨rfl, rfl⟩ rfl rfl (a) (i) rfl rfl z42 z42 ?_
     refine AllSl.mk fun b3 => ?_
     refine bU kT 1 aA (xs := out) (ys := [(s.drop a).take (i - a)]) rfl rfl rfl rfl rfl rfl rfl rfl rfl (by decide) ⟨rfl, rfl⟩ rfl z34 z42 z42 (fun z3 => ?_)
     refine ⟨⟨(i + 1, i + 1, z3, out ++ [(s.drop a).take (i - a)]), fun h => by have h : i + 1 ≤ s.length := h; omega, fun _ => ⟨show i + 1 = s.length + 1 by omega, ?_⟩, show i + 1 ≤ s.length + 1 by omega, by simp; omega⟩, ?_, by simp only; omega⟩
     · rw [hc, List.drop_eq_nil_of_le (show s.length ≤ i by omega)]; rfl
     · exact aC [0] zw1 zw0 zw1 zw5 zw3 rfl rfl
   have hil : i < s.length := by have g' : ¬ (i : Int) = (s.length : Int) := z99; omega
   have hd : s.drop i = s[i] :: s.drop (i + 1) := List.drop_eq_getElem_cons hil
   refine kC aA rfl rfl rfl rfl ⟨rfl, rfl⟩ (i) rfl z42 ?_
   refine CaseB.mk (fun g2 => ?_) (fun g2 => ?_)
   · have e : s[i] = c := (dG0 _ _).1 z94
     refine mJ aA rfl rfl rfl ⟨rfl, rfl⟩ rfl rfl (a) (i) rfl rfl z42 z42 ?_
     refine AllSl.mk fun b3 => ?_
     refine bU kT 1 aA (xs := out) (ys := [(s.drop a).take (i - a)]) rfl rfl rfl rfl rfl rfl rfl rfl rfl (by decide) ⟨rfl, rfl⟩ rfl z34 z42 z42 (fun z3 => ?_)
     refine ⟨⟨(i + 1, i + 1, z3, out ++ [(s.drop a).take (i - a)]), fun _ => ⟨show i + 1 ≤ i + 1 by omega, ?_⟩, fun h => by have h : s.length < i + 1 := h; omega, show i + 1 ≤ s.length + 1 by omega, by simp; omega⟩, ?_, by simp only; omega⟩
     · rw [hc, hd, uR, if_pos e]; simp
     · exact aC [0] zw1 zw0 zw1 zw5 zw3 rfl rfl
   have e : ¬ s[i] = c := fun h => by rw [h] at g2; simp at g2
   refine ⟨⟨(i + 1, a, y, out), fun _ => ⟨show a ≤ i + 1 by omega, ?_⟩, fun h => by have h : s.length < i + 1 := h; omega, i3, show out.length ≤ i + 1 by omega⟩, ?_, by simp only; omega⟩
   · rw [hc, hd, uR, if_neg e, iK0 s ha hil]
   · exact aC [0] zw1 zw0 zw1 zw5 zw3 rfl rfl
 have hi : s.length < i := by have := of_decide_eq_false g; omega
 obtain ⟨_, e⟩ := i2 hi
 rw [← e]
 exact bD [0] ⟨y, rfl, rfl⟩ z147 rfl ⟨rfl, trivial⟩ (fun _ => rfl)
theorem eY0 {a b : Nat} (h : a ≤ b) : 10 ^ a ≤ 10 ^ b := Nat.pow_le_pow_right (by decide) h
theorem uU {n : Int} {s : Str} {i : Nat} (h : i < s.length) : tW n (s.drop i) = if (s[i]).toNat < 48 ∨ 57 < (s[i]).toNat then none else tW (n * 10 + (((s[i]).toNat : Int) - 48)) (s.drop (i + 1)) := by
 rw [List.drop_eq_getElem_cons h, tW]
theorem lP0 (s : Str) (w : World) (hb : s.length ≤ 1000000) :
   Calls Tryz.prog 185 #[.string (bs s)] w (Ret w fun v L => v = .tuple #[.int .i64 ((uT s).getD 0), .bool (uT s).isSome] ∧ L = []) := by
 generalize hM : uT s = M
 have hbad : xU s → M = none := fun h => by rw [← hM]; exact if_pos h
 refine bV Tryz.func185 rfl aA w _ rfl _ rfl [] trivial trivial _ (by decide) ?_
 refine fJ aA rfl rfl rfl rfl rfl rfl ⟨rfl, rfl⟩ ?_
 apply CaseB.mk <;> intro g
 · have hpos : 0 < s.length := by have := of_decide_eq_true g; omega
   have hh : s.head? = some s[0] := by rw [List.head?_eq_getElem?, List.getElem?_eq_getElem hpos]
   refine kC aA rfl rfl rfl rfl ⟨rfl, rfl⟩ (0) rfl z42 ?_
   refine CaseB.mk (fun g2 => ?_) (fun g2 => ?_)
   refine mJ aA rfl rfl rfl ⟨rfl, rfl⟩ rfl rfl (1) (s.length) rfl rfl z42 z42 ?_
   have hn : xT s = true := by rw [xT, hh]; exact decide_eq_true (congrArg some ((dG0 _ 45).1 z94))
   have ht : nO s = (s.drop 1).take (s.length - 1) := by rw [nO, if_pos hn, List.take_of_length_le z87]
   have htl : (nO s).length ≤ 1000000 := by rw [ht]; simp; omega
   generalize (s.drop 1).take (s.length - 1) = t at ht ⊢
   generalize ((s[0].toNat : Int) == 45) = nb at g2 ⊢
   rw [← g2] at hn
   have hbad2 : t.length = 0 ∨ 17 < t.length ∨ (t.head? = some 48 ∧ (1 < t.length ∨ nb = true)) → M = none := fun h => hbad z88
   have hM2 : ¬ (t.length = 0 ∨ 17 < t.length ∨ (t.head? = some 48 ∧ (1 < t.length ∨ nb = true))) → M = (tW 0 t).map fun n => if nb = true then -n else n := fun h => by rw [← hM, uT, if_neg z88, ht, hn]
   rw [ht] at htl
   refine fJ aA rfl rfl rfl rfl rfl rfl ⟨rfl, rfl⟩ ?_
   refine CaseB.mk (fun g3 => ?_) (fun g3 => ?_)
   · obtain rfl := hbad2 (.inl z95)
     exact aH ⟨rfl, rfl⟩ (fun _ => rfl)
   refine fJ aA rfl rfl rfl rfl rfl rfl ⟨rfl, rfl⟩ ?_
   refine CaseB.mk (fun g4 => ?_) (fun g4 => ?_)
   · obtain rfl := hbad2 (.inr (.inl (by have := of_decide_eq_true g4; omega)))
     exact aH ⟨rfl, rfl⟩ (fun _ => rfl)
   have hp0 : 0 < t.length := by have h : ¬ (t.length : Int) = 0 := z95; omega
   have h17 : t.length ≤ 17 := by have := of_decide_eq_false g4; omega
   have hh2 : t.head? = some t[0] := by rw [List.head?_eq_getElem?, List.getElem?_eq_getElem hp0]
   refine kC aA rfl rfl rfl rfl ⟨rfl, rfl⟩ (0) rfl z42 ?_
   refine CaseB.mk (fun g5 => ?_) (fun g5 => ?_)
   · have e5 : t[0] = 48 := (dG0 _ 48).1 (by simpa using g5)
     obtain rfl := hbad2 (.inr (.inr ⟨by rw [hh2, e5], .inr g2⟩))
     refine fJ aA rfl rfl rfl rfl rfl rfl ⟨rfl, rfl⟩ ?_
     refine CaseB.mk (fun g6 => ?_) (fun g6 => ?_)
     · exact aH ⟨rfl, rfl⟩ (fun _ => rfl)
     refine CaseB.mk (fun g7 => ?_) (fun g7 => ?_)
     · exact aH ⟨rfl, rfl⟩ (fun _ => rfl)
     rw [g2] at g7; cases g7
   have hg : ¬ (t.length = 0 ∨ 17 < t.length ∨ (t.head? = some 48 ∧ (1 < t.length ∨ nb = true))) := by
     rintro (h | h | ⟨h, h'⟩)
     · omega
     · omega
     · rw [hh2] at h; rw [Option.some.inj h] at g5; simp at g5
   rotate_left
   have hn : xT s = false := by rw [xT, hh]; exact decide_eq_false (fun h => by rw [Option.some.inj h] at g2; simp at g2)
   have ht : nO s = s := by rw [nO, if_neg (by rw [hn]; decide)]
   have htl : (nO s).length ≤ 1000000 := by rw [ht]; exact hb
   generalize ((s[0].toNat : Int) == 45) = nb at g2 ⊢
   rw [← g2] at hn
   obtain ⟨t, rfl⟩ : ∃ t, t = s := ⟨s, rfl⟩
   have hbad2 : t.length = 0 ∨ 17 < t.length ∨ (t.head? = some 48 ∧ (1 < t.length ∨ nb = true)) → M = none := fun h => hbad z88
   have hM2 : ¬ (t.length = 0 ∨ 17 < t.length ∨ (t.head? = some 48 ∧ (1 < t.length ∨ nb = true))) → M = (tW 0 t).map fun n => if nb = true then -n else n := fun h => by rw [← hM, uT, if_neg z88, ht, hn]
   rw [ht] at htl
   refine fJ aA rfl rfl rfl rfl rfl rfl ⟨rfl, rfl⟩ ?_
   refine CaseB.mk (fun g3 => ?_) (fun g3 => ?_)
   · obtain rfl := hbad2 (.inl z95)
     exact aH ⟨rfl, rfl⟩ (fun _ => rfl)
   refine fJ aA rfl rfl rfl rfl rfl rfl ⟨rfl, rfl⟩ ?_
   refine CaseB.mk (fun g4 => ?_) (fun g4 => ?_)
   · obtain rfl := hbad2 (.inr (.inl (by have := of_decide_eq_true g4; omega)))
     exact aH ⟨rfl, rfl⟩ (fun _ => rfl)
   have hp0 : 0 < t.length := by have h : ¬ (t.length : Int) = 0 := z95; omega
   have h17 : t.length ≤ 17 := by have := of_decide_eq_false g4; omega
   have hh2 : t.head? = some t[0] := by rw [List.head?_eq_getElem?, List.getElem?_eq_getElem hp0]
   refine kC aA rfl rfl rfl rfl ⟨rfl, rfl⟩ (0) rfl z42 ?_
   refine CaseB.mk (fun g5 => ?_) (fun g5 => ?_)
   refine fJ aA rfl rfl rfl rfl rfl rfl ⟨rfl, rfl⟩ ?_
   refine CaseB.mk (fun g6 => ?_) (fun g6 => ?_)
   · have e5 : t[0] = 48 := (dG0 _ 48).1 (by simpa using g5)
     obtain rfl := hbad2 (.inr (.inr ⟨by rw [hh2, e5], .inl (by have := of_decide_eq_true g6; omega)⟩))
     exact aH ⟨rfl, rfl⟩ (fun _ => rfl)
   refine CaseB.mk (fun g7 => ?_) (fun g7 => ?_)
   · rw [g2] at g7; cases g7
   have hg : ¬ (t.length = 0 ∨ 17 < t.length ∨ (t.head? = some 48 ∧ (1 < t.length ∨ nb = true))) := by
     rintro (h | h | ⟨h, h'⟩)
     · omega
     · omega
     · have := of_decide_eq_false g6
       rcases h' with h' | h'
       · omega
       · rw [g7] at h'; cases h'
   rotate_left
   have hg : ¬ (t.length = 0 ∨ 17 < t.length ∨ (t.head? = some 48 ∧ (1 < t.length ∨ nb = true))) := by
     rintro (h | h | ⟨h, h'⟩)
     · omega
     · omega
     · rw [hh2] at h; rw [Option.some.inj h] at g5; simp at g5
   rotate_left
   all_goals
     have hG := hM2 hg
     refine LoopW.mk ⟨{ q : Nat × Int // q.1 ≤ t.length ∧ tW 0 t = tW q.2 (t.drop q.1) ∧ 0 ≤ q.2 ∧ q.2 < ((10 ^ q.1 : Nat) : Int) },
       fun q => .mk [(0, .v (.string (bs t))), (4, .v (.bool nb)), (5, .v (.int .i64 q.1.2)), (6, .v (.int .i64 (q.1.1 : Int)))] 0 0 [] [] [],
       fun q => t.length - q.1.1, ⟨(0, 0), Nat.zero_le _, rfl, by decide, by decide⟩, ?_, ?_⟩
     · exact aC [] zw2 zw0 zw2 zw5 zw4 rfl rfl
     rintro ⟨⟨i, n⟩, i1, i2, i3, i4⟩
     simp only at i1 i2 i3 i4 ⊢
     have hno : tW 0 t = none → M = none := fun h => by rw [hG, h]; rfl
     refine fJ aA rfl rfl rfl rfl rfl rfl ⟨rfl, rfl⟩ ?_
     refine CaseB.mk (fun gi => ?_) (fun gi => ?_)
     · have hlt : i < t.length := by have := of_decide_eq_true gi; omega
       have hw := bE i _ hlt (by omega)
       refine kC aA rfl rfl rfl rfl ⟨rfl, rfl⟩ (i) rfl z42 ?_
       refine CaseB.mk (fun g8 => ?_) (fun g8 => ?_)
       · obtain rfl := hno (by rw [i2, uU hlt, if_pos (.inl (by have := of_decide_eq_true g8; omega))])
         exact aH ⟨rfl, rfl⟩ (fun _ => rfl)
       refine kC aA rfl rfl rfl rfl ⟨rfl, rfl⟩ (i) rfl z42 ?_
       refine CaseB.mk (fun g9 => ?_) (fun g9 => ?_)
       · obtain rfl := hno (by rw [i2, uU hlt, if_pos (.inr (by have := of_decide_eq_true g9; omega))])
         exact aH ⟨rfl, rfl⟩ (fun _ => rfl)
       have d0 : 48 ≤ (t[i].toNat : Int) := by have := of_decide_eq_false g8; omega
       have d9 : (t[i].toNat : Int) ≤ 57 := by have := of_decide_eq_false g9; omega
       have hp := eY0 (show i ≤ 16 by omega)
       have hp2 : 10 ^ (i + 1) = 10 ^ i * 10 := Nat.pow_succ ..
       have e16 : 10 ^ 16 = 10000000000000000 := rfl
       have hv : IntKind.i64.wrap (IntKind.i64.wrap (n * 10) + IntKind.i64.wrap (IntKind.u8.wrap ((t[i].toNat : Int) - 48))) = n * 10 + ((t[i].toNat : Int) - 48) := by
         have w1 : IntKind.i64.wrap (n * 10) = n * 10 := cY (by omega) (by omega)
         have w2 : IntKind.u8.wrap ((t[i].toNat : Int) - 48) = (t[i].toNat : Int) - 48 := by rw [IntKind.wrap_u8]; omega
         have w3 : IntKind.i64.wrap ((t[i].toNat : Int) - 48) = (t[i].toNat : Int) - 48 := cY (by omega) (by omega)
         rw [w1, w2, w3, cY (by omega) (by omega)]
       refine kC aA rfl rfl rfl rfl ⟨rfl, rfl⟩ (i) rfl z42 ?_
       refine ⟨⟨(i + 1, n * 10 + ((t[i].toNat : Int) - 48)), hlt, ?_, show (0 : Int) ≤ n * 10 + ((t[i].toNat : Int) - 48) by omega, show n * 10 + ((t[i].toNat : Int) - 48) < ((10 ^ (i + 1) : Nat) : Int) by omega⟩, ?_, by simp only; omega⟩
       · rw [i2, uU hlt, if_neg (by omega)]
       · refine aC [] ?_ ?_ ?_ ?_ ?_ rfl rfl
         · exact zw19
         · exact zw0
         · exact zw19
         · exact zw5
         · repeat (first | exact trivial | refine ⟨.inl ⟨_, rfl, (by first | rfl | ((first | exact congrArg (fun z => SV.v (Value.int .i64 z)) hw | exact congrArg (fun z => SV.v (Value.int .i64 z)) hv)))⟩, ?_⟩ | refine ⟨.inr z142, ?_⟩)
     have hge : t.length ≤ i := by have := of_decide_eq_false gi; omega
     rw [List.drop_eq_nil_of_le hge] at i2
     have hMn : M = some (if nb = true then -n else n) := by rw [hG, i2]; rfl
     refine CaseB.mk (fun gn => ?_) (fun gn => ?_)
     · rw [hMn, gn]
       have hp := eY0 (show i ≤ 17 by omega)
       have e17 : 10 ^ 17 = 100000000000000000 := rfl
       have hw : IntKind.i64.wrap (0 - n) = -n := by rw [IntKind.wrap_i64]; omega
       exact bD [] (v := .tuple #[.int .i64 (IntKind.i64.wrap (0 - n)), .bool true]) ⟨by rw [hw]; rfl, rfl⟩ trivial rfl trivial (fun _ => rfl)
     · rw [hMn, gn]
       exact aH ⟨rfl, rfl⟩ (fun _ => rfl)
 obtain rfl : s = [] := List.eq_nil_of_length_eq_zero z85
 obtain rfl := hbad (.inl rfl)
 refine fJ aA rfl rfl rfl rfl rfl rfl ⟨rfl, rfl⟩ ?_
 refine CaseB.mk (fun g3 => ?_) (fun g3 => by simp at g3)
 exact aH ⟨rfl, rfl⟩ (fun _ => rfl)
theorem qK (k : Int) (w : World) : Calls Tryz.prog 198 #[.int .i64 k] w (Ret w fun v L => v = .int .i64 (jA k) ∧ L = []) := by
 refine bV Tryz.func198 rfl aA w _ rfl _ rfl [] trivial trivial _ (by decide) ?_
 repeat' (refine CaseB.mk (fun h => ?_) (fun h => ?_))
 all_goals
   simp only [beq_iff_eq, beq_eq_false_iff_ne] at *
   first
     | (exfalso; omega)
     | (refine aH ⟨?_, rfl⟩ (fun _ => rfl); simp [jA, *])
theorem lQ0 (k : Int) (w : World) : Calls Tryz.prog 189 #[.int .i64 k] w (Ret w fun v L => v = .string (bs (fV k)) ∧ L = []) := by
 refine bV Tryz.func189 rfl aA w _ rfl _ rfl [] trivial trivial _ (by decide) ?_
 refine AllSl.mk fun l => ?_
 refine CaseB.mk (fun h => ?_) (fun h => ?_)
 · have e : fV k = [] := if_pos (.inl (by have := of_decide_eq_true h; omega))
   rw [e]
   exact aH ⟨rfl, rfl⟩ (fun _ => rfl)
 refine CaseB.mk (fun h2 => ?_) (fun h2 => ?_)
 · have e : fV k = [] := if_pos (.inr (by have := of_decide_eq_true h2; omega))
   rw [e]
   exact aH ⟨rfl, rfl⟩ (fun _ => rfl)
 have h1 : 1 ≤ k := by have := of_decide_eq_false h; omega
 have h10 : k ≤ 10 := by have := of_decide_eq_false h2; omega
 obtain ⟨j, rfl⟩ : ∃ j : Nat, k = j := ⟨k.toNat, (Int.toNat_of_nonneg (by omega)).symm⟩
 have hj : j < wordsL.length := by show j < 11; omega
 have e : fV (j : Int) = wordsL[j] := by rw [fV, if_neg (by omega), Int.toNat_natCast, List.getD_eq_getElem?_getD, List.getElem?_eq_getElem hj]; rfl
 rw [e]
 refine aG kT (xs := wordsL) aA rfl rfl rfl rfl rfl ⟨rfl, rfl⟩ (bY 0 rfl) j rfl hj (fun ad => ?_)
 exact aH ⟨rfl, rfl⟩ (fun _ => rfl)
theorem dH0 {G : List Fct} (k : Nat) {old : Bool} {i : Sl} {e m : Nat} {cs : List Value} {s : Str} (hk : G[k]? = some (kD old i e 1 cs m)) (hm : m = s.length) (hc : cs = s.map fun b => .int .u8 (b.toNat : Int)) : ∀ w, (∀ f ∈ G, f.P w) → RdS w i 1 (s.map fun b => .int .u8 (b.toNat : Int)) s.length := by
 subst hm; subst hc; exact bY k hk
theorem iL0 (f n : Nat) (out : Str) (h : 9 < n) : sH (f + 1) n out = sH f (n / 10) (UInt8.ofNat (48 + n % 10) :: out) := if_pos h
theorem oL0 (d : Nat) (h : d < 10) : IntKind.u8.wrap (IntKind.i64.wrap (48 + (d : Int))) = ((UInt8.ofNat (48 + d)).toNat : Int) := by
 have e : (UInt8.ofNat (48 + d)).toNat = 48 + d := by rw [UInt8.toNat_ofNat']; omega
 rw [e, cY (by omega) (by omega), IntKind.wrap_u8]; omega
theorem lR0 (n : Nat) (w : World) (hn : n < 1000000000000000000) : Calls Tryz.prog 197 #[.int .i64 (n : Int)] w (Ret w fun v L => v = .string (bs (sH 19 n [])) ∧ L = []) := by
 refine bV Tryz.func197 rfl aA w _ rfl _ rfl [] trivial trivial _ (by decide) ?_
 refine CaseB.mk (fun g => by have := of_decide_eq_true g; omega) (fun _ => ?_)
 refine CaseB.mk (fun g => by have := of_decide_eq_true g; omega) (fun _ => ?_)
 refine LoopW.mk ⟨{ q : Nat × Nat × Str // sH 19 n [] = sH q.1 q.2.1 q.2.2 ∧ q.2.1 < 10 ^ q.1 ∧ 1 ≤ q.1 ∧ q.2.2.length + q.1 ≤ 19 ∧ q.2.1 < 1000000000000000000 },
   fun q => .mk [(0, .v (.int .i64 (q.1.2.1 : Int))), (3, .v (.string (bs q.1.2.2)))] 0 0 [] [] [],
   fun q => q.1.1, ⟨(19, n, []), rfl, by show n < 10 ^ 19; omega, by show 1 ≤ 19; omega, by simp, hn⟩, ?_, ?_⟩
 · exact aC [] zw2 zw0 zw2 zw5 zw4 rfl rfl
 rintro ⟨⟨f, m, out⟩, i1, i2, i3, i4, i5⟩
 simp only at i1 i2 i3 i4 i5 ⊢
 apply CaseB.mk <;> intro g
 · have h9 : 9 < m := by have := of_decide_eq_true g; omega
   obtain ⟨f, rfl⟩ : ∃ f', f = f' + 1 := ⟨f - 1, by omega⟩
   have hp : 10 ^ (f + 1) = 10 ^ f * 10 := Nat.pow_succ ..
   have hf : 1 ≤ f := by
     rcases Nat.eq_zero_or_pos f with h | h
     · subst h; simp at i2; omega
     · exact h
   refine cO rfl rfl rfl ⟨rfl, rfl⟩ (.int .i64 ((m % 10 : Nat) : Int)) (fun w => eG w) (fun w => qS (by omega) (by rw [Int.tmod_eq_emod_of_nonneg (by omega)]; omega) w) ?_
   refine AllSl.mk fun b => ?_
   refine dF0 (s := [UInt8.ofNat (48 + m % 10)]) aA rfl rfl rfl rfl rfl ⟨rfl, rfl⟩ (dH0 0 rfl rfl (by rw [oL0 (m % 10) (by omega)]; rfl)) (Nat.zero_lt_one) ?_
   refine cO rfl rfl rfl ⟨rfl, rfl⟩ (.string (bs ([UInt8.ofNat (48 + m % 10)] ++ out))) (fun w => bI w) (fun w => dB z58 w) ?_
   refine cO rfl rfl rfl ⟨rfl, rfl⟩ (.int .i64 ((m / 10 : Nat) : Int)) (fun w => eG w) (fun w => aJ0 (by omega) (by rw [Int.tdiv_eq_ediv_of_nonneg (by omega), cY (by omega) (by omega)]; omega) w) ?_
   refine ⟨⟨(f, m / 10, UInt8.ofNat (48 + m % 10) :: out), i1.trans (iL0 f m out h9), show m / 10 < 10 ^ f by omega, hf, by simp only [List.length_cons]; omega, show m / 10 < 1000000000000000000 by omega⟩, ?_, by simp only; omega⟩
   exact aC [] zw2 zw0 zw2 zw5 zw4 rfl rfl
 have h9 : m ≤ 9 := by have := of_decide_eq_false g; omega
 obtain ⟨f, rfl⟩ : ∃ f', f = f' + 1 := ⟨f - 1, by omega⟩
 refine AllSl.mk fun b => ?_
 refine dF0 (s := [UInt8.ofNat (48 + m)]) aA rfl rfl rfl rfl rfl ⟨rfl, rfl⟩ (dH0 0 rfl rfl (by rw [oL0 m (by omega)]; rfl)) (Nat.zero_lt_one) ?_
 refine cO rfl rfl rfl ⟨rfl, rfl⟩ (.string (bs ([UInt8.ofNat (48 + m)] ++ out))) (fun w => bI w) (fun w => dB z58 w) ?_
 have e : sH 19 n [] = [UInt8.ofNat (48 + m)] ++ out := by rw [i1, sH, if_neg (by omega)]; rfl
 rw [e]
 exact aH ⟨rfl, rfl⟩ (fun _ => rfl)
theorem dI0 (n : Int) (w : World) (h1 : -1000000000000000000 < n) (h2 : n < 1000000000000000000) : Calls Tryz.prog 197 #[.int .i64 n] w (Ret w fun v L => v = .string (bs (lU n)) ∧ L = []) := by
 by_cases hn : 0 ≤ n
 · obtain ⟨k, rfl⟩ : ∃ k : Nat, n = k := ⟨n.toNat, (Int.toNat_of_nonneg hn).symm⟩
   have e : lU (k : Int) = sH 19 k [] := by rw [lU, if_neg (by omega)]; rfl
   rw [e]
   exact lR0 k w (by omega)
 obtain ⟨k, rfl⟩ : ∃ k : Nat, n = -(k : Int) := ⟨(-n).toNat, by omega⟩
 have e : lU (-(k : Int)) = [45] ++ sH 19 k [] := by
   rw [lU, if_pos (by omega), show (-(k : Int)).natAbs = k by omega]; rfl
 rw [e]
 have hw : IntKind.i64.wrap (0 - -(k : Int)) = (k : Int) := by rw [cY] <;> omega
 refine bV Tryz.func197 rfl aA w _ rfl _ rfl [] trivial trivial _ (by decide) ?_
 refine CaseB.mk (fun g => by have := of_decide_eq_true g; omega) (fun _ => ?_)
 refine CaseB.mk (fun g => ?_) (fun g => by have := of_decide_eq_false g; omega)
 refine aB _ yM rfl rfl rfl rfl ⟨rfl, rfl⟩ (fun A w hW => (by rw [hw]; exact lR0 k w (by omega))) ?_
 rintro v L ⟨rfl, rfl⟩
 have hl := tX 19 k []
 refine cO rfl rfl rfl ⟨rfl, rfl⟩ (.string (bs ([45] ++ (sH 19 k [])))) (fun w => bI w) (fun w => dB (by simp only [List.length_cons, List.length_nil] at hl ⊢; omega) w) ?_
 exact aH ⟨rfl, rfl⟩ (fun _ => rfl)
theorem zQ (k : Int) : jA k = 0 ∨ jA k = 1 ∨ jA k = 2 := by
 unfold jA
 split
 · exact .inr (.inl rfl)
 · split
   · exact .inl rfl
   · exact .inr (.inr rfl)
theorem gQ0 {ns : List Int} (h : ns.length = 1) : ∃ a, ns = [a] := by
 match ns, h with
 | [a], _ => exact ⟨a, rfl⟩
theorem nE0 {ns : List Int} (h : ns.length = 2) : ∃ a b, ns = [a, b] := by
 match ns, h with
 | [a, b], _ => exact ⟨a, b, rfl⟩
theorem uV {k : Int} {ns : List Int} (h : (jA k = 0 ∨ jA k = 1) → ns.length ≠ 1) (h2 : jA k = 2 → ns.length ≠ 2) : nA k ns = none := by
 unfold nA
 rcases zQ k with e | e | e
 · rw [if_pos e]
   split
   · exact (h (.inl e) rfl).elim
   · rfl
 · rw [if_neg (by omega), if_pos e]
   split
   · exact (h (.inr e) rfl).elim
   · rfl
 · rw [if_neg (by omega), if_neg (by omega)]
   split
   · exact (h2 e rfl).elim
   · rfl
theorem pR0 (k : Int) (i : Sl) (ns : List Int) (w : World) (h : At w [slo i aJ 1 ns]) :
   Calls Tryz.prog 196 #[.int .i64 k, i.val ns.length] w (Ret w fun v L => v = .tuple #[.agg (cOp ((nA k ns).getD Op0)).toArray, .bool (nA k ns).isSome] ∧ L = []) := by
 refine bZ Tryz.func196 rfl aA w _ rfl _ rfl _ h ⟨rfl, rfl, trivial⟩ _ _ (by decide) ?_
 refine aB _ vE rfl rfl rfl rfl ⟨rfl, rfl⟩ (fun A w hW => (qK k w)) ?_
 rintro v L ⟨rfl, rfl⟩
 apply CaseB.mk <;> intro g
 · have a0 : jA k = 0 := by simpa using g
   refine CaseB.mk (fun g2 => ?_) (fun g2 => ?_)
   · obtain ⟨a, rfl⟩ := gQ0 (ns := ns) (by have g' : (ns.length : Int) = 1 := z94; omega)
     refine aG aF aA rfl rfl rfl rfl rfl ⟨rfl, rfl⟩ z34 0 rfl z42 (fun ad => ?_)
     have e : nA k [a] = some ⟨k, 0, a⟩ := by rw [nA, if_pos a0]
     rw [e]
     exact aH ⟨rfl, rfl⟩ (fun _ => rfl)
   have hl : ns.length ≠ 1 := fun h => by rw [h] at g2; simp at g2
   rw [uV (fun _ => hl) (fun e => by omega)]
   refine aB _ vE rfl rfl rfl rfl ⟨rfl, rfl⟩ (fun A w hW => (qK k w)) ?_
   rintro v L ⟨rfl, rfl⟩
   refine CaseB.mk (fun g3 => by rw [a0] at g3; simp at g3) (fun _ => ?_)
   refine aB _ vE rfl rfl rfl rfl ⟨rfl, rfl⟩ (fun A w hW => (qK k w)) ?_
   rintro v L ⟨rfl, rfl⟩
   refine CaseB.mk (fun g3 => by rw [a0] at g3; simp at g3) (fun _ => ?_)
   exact aH ⟨rfl, rfl⟩ (fun _ => rfl)
 have n0 : ¬ jA k = 0 := by simpa using g
 refine aB _ vE rfl rfl rfl rfl ⟨rfl, rfl⟩ (fun A w hW => (qK k w)) ?_
 rintro v L ⟨rfl, rfl⟩
 apply CaseB.mk <;> intro g
 · have a0 : jA k = 1 := by simpa using g
   refine CaseB.mk (fun g2 => ?_) (fun g2 => ?_)
   · obtain ⟨a, rfl⟩ := gQ0 (ns := ns) (by have g' : (ns.length : Int) = 1 := z94; omega)
     refine aG aF aA rfl rfl rfl rfl rfl ⟨rfl, rfl⟩ z34 0 rfl z42 (fun ad => ?_)
     have e : nA k [a] = some ⟨k, a, 0⟩ := by rw [nA, if_neg n0, if_pos a0]
     rw [e]
     exact aH ⟨rfl, rfl⟩ (fun _ => rfl)
   have hl : ns.length ≠ 1 := fun h => by rw [h] at g2; simp at g2
   rw [uV (fun _ => hl) (fun e => by omega)]
   refine aB _ vE rfl rfl rfl rfl ⟨rfl, rfl⟩ (fun A w hW => (qK k w)) ?_
   rintro v L ⟨rfl, rfl⟩
   refine CaseB.mk (fun g3 => by rw [a0] at g3; simp at g3) (fun _ => ?_)
   exact aH ⟨rfl, rfl⟩ (fun _ => rfl)
 have n1 : ¬ jA k = 1 := by simpa using g
 have a2 : jA k = 2 := by have := zQ k; omega
 refine aB _ vE rfl rfl rfl rfl ⟨rfl, rfl⟩ (fun A w hW => (qK k w)) ?_
 rintro v L ⟨rfl, rfl⟩
 refine CaseB.mk (fun g => ?_) (fun g => by rw [a2] at g; simp at g)
 refine CaseB.mk (fun g2 => ?_) (fun g2 => ?_)
 · obtain ⟨a, b, rfl⟩ := nE0 (ns := ns) (by have g' : (ns.length : Int) = 2 := z94; omega)
   refine aG aF aA rfl rfl rfl rfl rfl ⟨rfl, rfl⟩ z34 0 rfl z42 (fun ad => ?_)
   refine aG aF aA rfl rfl rfl rfl rfl ⟨rfl, rfl⟩ z34 1 rfl z42 (fun ad => ?_)
   have e : nA k [a, b] = some ⟨k, a, b⟩ := by rw [nA, if_neg n0, if_neg n1]
   rw [e]
   exact aH ⟨rfl, rfl⟩ (fun _ => rfl)
 have hl : ns.length ≠ 2 := fun h => by rw [h] at g2; simp at g2
 rw [uV (fun e => by omega) (fun _ => hl)]
 exact aH ⟨rfl, rfl⟩ (fun _ => rfl)
def Op.near (o : Op) : Prop := -1000000000000000000 < o.on ∧ o.on < 1000000000000000000 ∧ -1000000000000000000 < o.arg ∧ o.arg < 1000000000000000000
theorem bL0 (o : Op) (w : World) (hn : o.near) :
   Calls Tryz.prog 188 #[.agg (cOp o).toArray] w (Ret w fun v L => v = .string (bs (gC o)) ∧ L = []) := by
 obtain ⟨h1, h2, h3, h4⟩ := hn
 have lw := zP o.kind
 have l1 := oM o.on
 have l2 := oM o.arg
 refine bV Tryz.func188 rfl aA w _ rfl _ rfl [] trivial trivial _ (by decide) ?_
 refine aB _ jO0 rfl rfl rfl rfl ⟨rfl, rfl⟩ (fun A w hW => (lQ0 o.kind w)) ?_
 rintro v L ⟨rfl, rfl⟩
 refine cO rfl rfl rfl ⟨rfl, rfl⟩ (.bool ((fV o.kind) == [])) (fun w => bI w) (fun w => wJ w) ?_
 apply CaseB.mk <;> intro g
 · have e : gC o = [] := if_pos z99
   rw [e]
   exact aH ⟨rfl, rfl⟩ (fun _ => rfl)
 have e0 : fV o.kind ≠ [] := by simpa using g
 refine aB _ vE rfl rfl rfl rfl ⟨rfl, rfl⟩ (fun A w hW => (qK o.kind w)) ?_
 rintro v L ⟨rfl, rfl⟩
 apply CaseB.mk <;> intro g
 · have a0 : jA o.kind = 0 := by simpa using g
   refine cO rfl rfl rfl ⟨rfl, rfl⟩ (.string (bs ((fV o.kind) ++ [32]))) (fun w => bI w) (fun w => dB z78 w) ?_
   refine aB _ yM rfl rfl rfl rfl ⟨rfl, rfl⟩ (fun A w hW => (dI0 o.arg w h3 h4)) ?_
   rintro v L ⟨rfl, rfl⟩
   refine cO rfl rfl rfl ⟨rfl, rfl⟩ (.string (bs ((fV o.kind ++ [32]) ++ (lU o.arg)))) (fun w => bI w) (fun w => dB z58 w) ?_
   have e : gC o = (fV o.kind ++ [32]) ++ lU o.arg := by rw [gC, if_neg e0, if_pos a0]
   rw [e]
   exact aH ⟨rfl, rfl⟩ (fun _ => rfl)
 have n0 : ¬ jA o.kind = 0 := by simpa using g
 refine aB _ vE rfl rfl rfl rfl ⟨rfl, rfl⟩ (fun A w hW => (qK o.kind w)) ?_
 rintro v L ⟨rfl, rfl⟩
 apply CaseB.mk <;> intro g
 · have a1 : jA o.kind = 1 := by simpa using g
   refine cO rfl rfl rfl ⟨rfl, rfl⟩ (.string (bs ((fV o.kind) ++ [32]))) (fun w => bI w) (fun w => dB z78 w) ?_
   refine aB _ yM rfl rfl rfl rfl ⟨rfl, rfl⟩ (fun A w hW => (dI0 o.on w h1 h2)) ?_
   rintro v L ⟨rfl, rfl⟩
   refine cO rfl rfl rfl ⟨rfl, rfl⟩ (.string (bs ((fV o.kind ++ [32]) ++ (lU o.on)))) (fun w => bI w) (fun w => dB z58 w) ?_
   have e : gC o = (fV o.kind ++ [32]) ++ lU o.on := by rw [gC, if_neg e0, if_neg n0, if_pos a1]
   rw [e]
   exact aH ⟨rfl, rfl⟩ (fun _ => rfl)
 have n1 : ¬ jA o.kind = 1 := by simpa using g
 have e : gC o = (((fV o.kind ++ [32]) ++ lU o.on) ++ [32]) ++ lU o.arg := by rw [gC, if_neg e0, if_neg n0, if_neg n1]
 rw [e]
 refine aE aA z103 z103 z103 200 [((0, 1), .v (.int .i64 o.on)), ((0, 2), .v (.int .i64 o.arg))] [] [] z138 z148 trivial rfl ?_
 refine lN rfl rfl rfl ⟨rfl, rfl⟩ (.string (bs ((fV o.kind) ++ [32]))) (fun w => bI w) (fun w => dB z78 w) ?_
 refine bM _ yM rfl rfl rfl rfl ⟨rfl, rfl⟩ (fun A w hW => (dI0 o.on w h1 h2)) ?_
 rintro v L ⟨rfl, rfl⟩
 refine lN rfl rfl rfl ⟨rfl, rfl⟩ (.string (bs ((fV o.kind ++ [32]) ++ (lU o.on)))) (fun w => bI w) (fun w => dB z58 w) ?_
 refine lN rfl rfl rfl ⟨rfl, rfl⟩ (.string (bs (((fV o.kind ++ [32]) ++ lU o.on) ++ [32]))) (fun w => bI w) (fun w => dB z58 w) ?_
 refine bM _ yM rfl rfl rfl rfl ⟨rfl, rfl⟩ (fun A w hW => (dI0 o.arg w h3 h4)) ?_
 rintro v L ⟨rfl, rfl⟩
 refine lN rfl rfl rfl ⟨rfl, rfl⟩ (.string (bs ((((fV o.kind ++ [32]) ++ lU o.on) ++ [32]) ++ (lU o.arg)))) (fun w => bI w) (fun w => dB z58 w) ?_
 exact aH ⟨rfl, rfl⟩ (fun _ => rfl)
theorem zR : ∀ (s : Str) (n m : Int) (k : Nat), 0 ≤ n → n < ((10 ^ k : Nat) : Int) → tW n s = some m → 0 ≤ m ∧ m < ((10 ^ (k + s.length) : Nat) : Int)
 | [], n, m, k, h0, h1, h => by simp only [tW, Option.some.injEq] at h; subst h; exact ⟨h0, h1⟩
 | x :: r, n, m, k, h0, h1, h => by
   simp only [tW] at h
   split at h
   · cases h
   · have hp : 10 ^ (k + 1) = 10 ^ k * 10 := Nat.pow_succ ..
     have := zR r (n * 10 + ((x.toNat : Int) - 48)) m (k + 1) (by omega) (by omega) h
     rw [show k + (x :: r).length = k + 1 + r.length by simp only [List.length_cons]; omega]
     exact this
def xV (n : Int) : Prop := -1000000000000000000 < n ∧ n < 1000000000000000000
theorem iM0 {s : Str} {n : Int} (h : uT s = some n) : xV n := by
 unfold uT at h
 split at h
 · cases h
 · rename_i hb
   have hl : (nO s).length ≤ 17 := Nat.le_of_not_lt fun h => hb (.inr (.inl h))
   cases e : tW 0 (nO s) with
   | none => rw [e] at h; cases h
   | some m =>
     rw [e] at h
     have h2 := zR _ 0 m 0 (by omega) (by decide) e
     have hp := eY0 (show 0 + (nO s).length ≤ 17 by omega)
     have e17 : 10 ^ 17 = 100000000000000000 := rfl
     simp only [Option.map_some, Option.some.injEq] at h
     subst h
     unfold xV
     split <;> omega
theorem eZ0 {k : Int} {ns : List Int} {o : Op} (hn : ∀ x ∈ ns, xV x) (h : nA k ns = some o) : o.near := by
 have z : xV 0 := ⟨by decide, by decide⟩
 unfold nA at h
 split at h
 · split at h
   · rename_i a; cases h; have := hn a (by simp); exact ⟨z.1, z.2, this.1, this.2⟩
   · cases h
 · split at h
   · split at h
     · rename_i a; cases h; have := hn a (by simp); exact ⟨this.1, this.2, z.1, z.2⟩
     · cases h
   · split at h
     · rename_i a b; cases h; have h1 := hn a (by simp); have h2 := hn b (by simp); exact ⟨h1.1, h1.2, h2.1, h2.2⟩
     · cases h
theorem fA0 (t w : Str) (ns : List Int) (f k : Nat) : pK t w ns (f + 1) k = if fV k = w then match nA k ns with | some o => if gC o = t then some o else pK t w ns f (k + 1) | none => pK t w ns f (k + 1) else pK t w ns f (k + 1) := rfl
theorem dJ0 {s : Str} {r : List Str} : gO (s :: r) = match uT s with | none => none | some n => match gO r with | none => none | some l => some (n :: l) := rfl
def lY (ns : List Int) (o : Option (List Int)) : Option (List Int) := match o with | none => none | some l => some (ns ++ l)
theorem vT {ns : List Int} {s : Str} {r : List Str} {n : Int} (h : uT s = some n) : lY ns (gO (s :: r)) = lY (ns ++ [n]) (gO r) := by
 rw [dJ0, h]
 cases gO r with
 | none => rfl
 | some l => simp [lY]
theorem vU {ns : List Int} {s : Str} {r : List Str} (h : uT s = none) : lY ns (gO (s :: r)) = none := by
 rw [dJ0, h]; rfl
theorem drop_take {α : Type} {xs : List α} {i m : Nat} (h : i < xs.length) : (xs.drop i).take (m + 1) = xs[i] :: (xs.drop (i + 1)).take m := by
 rw [List.drop_eq_getElem_cons h, List.take_succ_cons]
theorem zS (t : Str) (w : World) (hb : t.length ≤ 1000) :
   Calls Tryz.prog 186 #[.string (bs t)] w (Ret w fun v L => v = .tuple #[.agg (cOp ((fC t).getD Op0)).toArray, .bool (fC t).isSome] ∧ L = []) := by
 have hcl := tV 32 t
 have hpt : ∀ x ∈ gL 32 t, x.length ≤ 1000 := fun x hx => Nat.le_trans (rB hx) hb
 have hno : gO (((gL 32 t).drop 1).take 3) = none → fC t = none := fun h => by rw [fC, h]
 have hyes : ∀ ns, gO (((gL 32 t).drop 1).take 3) = some ns → fC t = if ns.length + 1 = (gL 32 t).length then pK t ((gL 32 t).headD []) ns 10 1 else none := fun ns h => by rw [fC, h]
 generalize fC t = M at hno hyes ⊢
 refine bV Tryz.func186 rfl aA w _ rfl _ rfl [] trivial trivial _ (by decide) ?_
 refine aB _ fQ0 rfl rfl rfl rfl ⟨rfl, rfl⟩ (fun A w hW => (gP0 t 32 w (by omega))) ?_
 rintro v L ⟨y, rfl, rfl⟩
 generalize gL 32 t = ps at hcl hpt hno hyes ⊢
 refine AllSl.mk fun l0 => ?_
 refine LoopW.mk ⟨{ q : Nat × Sl × List Int // 1 ≤ q.1 ∧ q.1 ≤ 4 ∧ q.1 ≤ ps.length ∧ gO ((ps.drop 1).take 3) = lY q.2.2 (gO ((ps.drop q.1).take (4 - q.1))) ∧ q.2.2.length + 1 = q.1 ∧ ∀ x ∈ q.2.2, xV x },
   fun q => .mk [(0, .v (.string (bs t))), (2, .p 0 0), (4, .v (y.val ps.length)), (5, .v (q.1.2.1.val q.1.2.2.length)), (6, .v (.int .i64 (q.1.1 : Int)))] 1 0 [(0, 65, 3)] [] [own q.1.2.1 3 aJ 1 q.1.2.2, own y 9 xR 1 ps],
   fun q => 4 - q.1.1, ⟨(1, l0, []), Nat.le_refl _, by show 1 ≤ 4; omega, hcl.1, by simp only [lY, List.nil_append]; cases gO ((ps.drop 1).take (4 - 1)) <;> rfl, rfl, by simp⟩, ?_, ?_⟩
 · exact aC [0, 1] zw2 zw0 zw2 zw5 zw4 rfl rfl
 rintro ⟨⟨i, z, ns⟩, i1, i2, i3, i4, i5, i6⟩
 simp only at i1 i2 i3 i4 i5 i6 ⊢
 apply CaseB.mk <;> intro g
 refine CaseB.mk (fun g2 => ?_) (fun g2 => ?_)
 · have hlt : i < ps.length := by have := of_decide_eq_true g; omega
   have h4 : i < 4 := by have := of_decide_eq_true g2; omega
   have hw := bE i _ hlt (by omega)
   obtain ⟨m, hm⟩ : ∃ m, 4 - i = m + 1 := ⟨3 - i, by omega⟩
   have hd : (ps.drop i).take (4 - i) = ps[i] :: (ps.drop (i + 1)).take (4 - (i + 1)) := by rw [hm, drop_take hlt, show 4 - (i + 1) = m by omega]
   rw [hd] at i4
   refine aG kT aA rfl rfl rfl rfl rfl ⟨rfl, rfl⟩ (bY 1 rfl) i rfl z42 (fun ad => ?_)
   obtain ⟨pt, hpe⟩ : ∃ pt, pt = ps[i] := ⟨_, rfl⟩
   have hpl : pt.length ≤ 1000 := by rw [hpe]; exact hpt _ (List.getElem_mem hlt)
   rw [← hpe] at i4 ⊢
   refine aB _ nY0 rfl rfl rfl rfl ⟨rfl, rfl⟩ (fun A w hW => (lP0 pt w (by omega))) ?_
   rintro v L ⟨rfl, rfl⟩
   cases hn : uT pt with
   | none =>
     refine CaseB.mk (fun g3 => ?_) (fun g3 => by simp at g3)
     obtain rfl := hno (i4.trans (vU hn))
     exact aH ⟨rfl, rfl⟩ (fun _ => rfl)
   | some n =>
     refine CaseB.mk (fun g3 => by simp at g3) (fun g3 => ?_)
     refine AllSl.mk fun b3 => ?_
     refine bU aF 1 aA (xs := ns) (ys := [n]) rfl rfl rfl rfl rfl rfl rfl rfl rfl (by decide) ⟨rfl, rfl⟩ rfl z34 z42 z42 (fun z3 => ?_)
     refine ⟨⟨(i + 1, z3, ns ++ [n]), show 1 ≤ i + 1 by omega, h4, hlt, i4.trans (vT hn), by simp; omega, fun x hx => ?_⟩, ?_, by simp only; omega⟩
     · rcases List.mem_append.1 hx with hx | hx
       · exact i6 x hx
       · simp only [List.mem_singleton] at hx; subst hx; exact iM0 hn
     · exact aC [0, 2] zw1 zw0 zw1 zw5 zw3 rfl rfl
 have hfin : gO ((ps.drop 1).take 3) = some ns := by
   rw [i4, show 4 - i = 0 by have := of_decide_eq_false g2; omega, List.take_zero]
   simp [gO, lY]
 rotate_left
 have hfin : gO ((ps.drop 1).take 3) = some ns := by
   rw [i4, List.drop_eq_nil_of_le z85, List.take_nil]
   simp [gO, lY]
 rotate_left
 all_goals
   have hM := hyes ns hfin
   clear hno hyes hfin i4
   refine LoopW.mk ⟨{ q : Nat // 1 ≤ q ∧ q ≤ 11 ∧ (ns.length + 1 = ps.length → M = pK t (ps.headD []) ns (11 - q) q) },
     fun q => .mk [(0, .v (.string (bs t))), (2, .p 0 0), (4, .v (y.val ps.length)), (5, .v (z.val ns.length)), (9, .v (.int .i64 (q.1 : Int)))] 1 0 [(0, 65, 3)] [] [own z 3 aJ 1 ns, own y 9 xR 1 ps],
     fun q => 11 - q.1, ⟨1, Nat.le_refl _, by decide, fun h => by rw [hM, if_pos h]⟩, ?_, ?_⟩
   · exact aC [0, 1] zw2 zw0 zw2 zw5 zw4 rfl rfl
   rintro ⟨k, k1, k2, k3⟩
   simp only at k1 k2 k3 ⊢
   have hw1 : IntKind.i64.wrap ((ps.length : Int) - 1) = (ps.length : Int) - 1 := cY (by omega) (by omega)
   refine CaseB.mk (fun h => ?_) (fun h => ?_)
   · have hk : k ≤ 10 := by have := of_decide_eq_true h; omega
     have hw := bE k 11 (by omega) (by omega)
     refine CaseB.mk (fun h2 => ?_) (fun h2 => ?_)
     · have he : ns.length + 1 = ps.length := by rw [hw1] at h2; have h2' : (ns.length : Int) = (ps.length : Int) - 1 := (by simpa using h2); omega
       have hp0 : 0 < ps.length := by omega
       have hhd : ps.headD [] = ps[0] := by
         cases ps with
         | nil => simp at hp0
         | cons a r => rfl
       have hst := k3 he
       rw [show 11 - k = (11 - (k + 1)) + 1 by omega, fA0, hhd] at hst
       rw [hhd] at k3
       obtain ⟨wd, hwd⟩ : ∃ wd, wd = ps[0] := ⟨_, rfl⟩
       rw [← hwd] at hst k3
       refine aE aA z103 z103 z103 200 [] [1] [_] trivial trivial ⟨rfl, trivial⟩ rfl ?_
       refine bO (ti := aU tab) kT aA rfl rfl rfl rfl rfl ⟨rfl, rfl⟩ z34 0 rfl z42 (fun ad => ?_)
       rw [← hwd]
       refine bM _ jO0 rfl rfl rfl rfl ⟨rfl, rfl⟩ (fun A w hW => (lQ0 (k : Int) w)) ?_
       rintro v L ⟨rfl, rfl⟩
       refine lN rfl rfl rfl ⟨rfl, rfl⟩ (.bool ((fV (k : Int)) != wd)) (fun w => bI w) (fun w => wK w) ?_
       have hgo : ∀ hst2 : M = pK t wd ns (11 - (k + 1)) (k + 1), 1 ≤ k + 1 ∧ k + 1 ≤ 11 ∧ (ns.length + 1 = ps.length → M = pK t (ps.headD []) ns (11 - (k + 1)) (k + 1)) := fun e => ⟨by omega, by omega, fun _ => by rw [hhd, ← hwd]; exact e⟩
       refine CaseB.mk (fun h3 => ?_) (fun h3 => ?_)
       · have e : ¬ fV (k : Int) = wd := by simpa using h3
         rw [if_neg e] at hst
         refine ⟨⟨k + 1, hgo hst⟩, ?_, by simp only; omega⟩
         exact aC [0, 1] zw1 zw0 zw1 zw5 zw3 rfl rfl
       have e : fV (k : Int) = wd := by simpa using h3
       rw [if_pos e] at hst
       refine aB _ cl196 rfl rfl rfl rfl ⟨rfl, rfl⟩ (fun A w hW => (pR0 (k : Int) z ns w ⟨hW.rdOwn 0 rfl, trivial⟩)) ?_
       rintro v L ⟨rfl, rfl⟩
       cases hm : nA (k : Int) ns with
       | none =>
         rw [hm] at hst
         refine CaseB.mk (fun h4 => by simp at h4) (fun h4 => ?_)
         refine ⟨⟨k + 1, hgo hst⟩, ?_, by simp only; omega⟩
         exact aC [0, 1] zw1 zw0 zw1 zw5 zw3 rfl rfl
       | some o =>
         rw [hm] at hst
         simp only at hst
         refine CaseB.mk (fun h4 => ?_) (fun h4 => by simp at h4)
         refine aB _ jN0 rfl rfl rfl rfl ⟨rfl, rfl⟩ (fun A w hW => (bL0 o w (eZ0 i6 hm))) ?_
         rintro v L ⟨rfl, rfl⟩
         refine cO rfl rfl rfl ⟨rfl, rfl⟩ (.bool ((gC o) == t)) (fun w => bI w) (fun w => wJ w) ?_
         refine CaseB.mk (fun h5 => ?_) (fun h5 => ?_)
         · have e5 : gC o = t := by simpa using h5
           rw [if_pos e5] at hst
           rw [hst]
           exact aH ⟨rfl, rfl⟩ (fun _ => rfl)
         have e5 : ¬ gC o = t := by simpa using h5
         rw [if_neg e5] at hst
         refine ⟨⟨k + 1, hgo hst⟩, ?_, by simp only; omega⟩
         exact aC [0, 1] zw1 zw0 zw1 zw5 zw3 rfl rfl
     have hn : ¬ ns.length + 1 = ps.length := fun e => by rw [hw1] at h2; have h2' : ¬ (ns.length : Int) = (ps.length : Int) - 1 := (by simpa using h2); omega
     rw [if_neg hn] at hM
     rw [hM]
     exact aH ⟨rfl, rfl⟩ (fun _ => rfl)
   have hk : k = 11 := by have := of_decide_eq_false h; omega
   subst hk
   have hMn : M = none := by
     by_cases he : ns.length + 1 = ps.length
     · exact k3 he
     · rw [hM, if_neg he]
   rw [hMn]
   exact aH ⟨rfl, rfl⟩ (fun _ => rfl)
theorem fB0 {out : Str} {l : List Int} {k : Nat} (h : k < l.length) : jI out (l.drop k) = jI ((out ++ [32]) ++ lU l[k]) (l.drop (k + 1)) := by
 rw [List.drop_eq_getElem_cons h, jI]
theorem vV : ∀ (l : List Int) (out : Str), (jI out l).length ≤ out.length + 21 * l.length
 | [], out => by simp [jI]
 | x :: r, out => by
   have h := vV r ((out ++ [32]) ++ lU x)
   have h2 := oM x
   simp only [jI, List.length_append, List.length_cons, List.length_nil] at h ⊢
   omega
theorem rC (wd : Str) (l : List Int) : (fF wd l).length ≤ wd.length + 21 * l.length + 1 := by
 have h := vV l wd
 unfold fF
 split
 · simp
 · simp only [List.length_append, List.length_cons, List.length_nil]; omega
theorem bM0 (wd : Str) (i : Sl) (l : List Int) (w : World) (h : At w [slo i aJ 1 l]) (hw : wd.length ≤ 1000) (hl : l.length ≤ 1000) (hn : ∀ x ∈ l, xV x) :
   Calls Tryz.prog 187 #[.string (bs wd), i.val l.length] w (Ret w fun v L => v = .string (bs (fF wd l)) ∧ L = []) := by
 refine bZ Tryz.func187 rfl aA w _ rfl _ rfl _ h ⟨rfl, rfl, trivial⟩ _ _ (by decide) ?_
 apply CaseB.mk <;> intro g
 · have e : l = [] := List.eq_nil_of_length_eq_zero (by have g' : (l.length : Int) = 0 := z99; omega)
   rw [show fF wd l = [] from if_pos e]
   exact aH ⟨rfl, rfl⟩ (fun _ => rfl)
 have e : ¬ l = [] := fun e => by rw [e] at g; simp at g
 rw [show fF wd l = jI wd l ++ [10] from if_neg e]
 refine LoopW.mk ⟨{ q : Nat × Str // q.1 ≤ l.length ∧ jI wd l = jI q.2 (l.drop q.1) ∧ q.2.length ≤ 1000 + 21 * q.1 },
   fun q => .mk [(1, .v (i.val l.length)), (5, .v (.string (bs q.1.2))), (6, .v (.int .i64 (q.1.1 : Int)))] 0 0 [] [] [slo i aJ 1 l],
   fun q => l.length - q.1.1, ⟨(0, wd), Nat.zero_le _, rfl, by simpa using hw⟩, ?_, ?_⟩
 · exact aC [0] zw2 zw0 zw2 zw5 zw4 rfl rfl
 rintro ⟨⟨k, out⟩, i1, i2, i3⟩
 simp only at i1 i2 i3 ⊢
 apply CaseB.mk <;> intro g
 · have hlt : k < l.length := by have := of_decide_eq_true g; omega
   have hw2 := bE k _ hlt (by omega)
   have hd := oM l[k]
   have hnk := hn _ (List.getElem_mem hlt)
   refine cO rfl rfl rfl ⟨rfl, rfl⟩ (.string (bs (out ++ [32]))) (fun w => bI w) (fun w => dB z58 w) ?_
   refine aG aF aA rfl rfl rfl rfl rfl ⟨rfl, rfl⟩ z34 k rfl z42 (fun ad => ?_)
   refine aB _ yM rfl rfl rfl rfl ⟨rfl, rfl⟩ (fun A w hW => (dI0 _ w hnk.1 hnk.2)) ?_
   rintro v L ⟨rfl, rfl⟩
   refine cO rfl rfl rfl ⟨rfl, rfl⟩ (.string (bs ((out ++ [32]) ++ (lU l[k])))) (fun w => bI w) (fun w => dB z58 w) ?_
   refine ⟨⟨(k + 1, (out ++ [32]) ++ lU l[k]), hlt, i2.trans (fB0 hlt), by simp only [List.length_append, List.length_cons, List.length_nil]; omega⟩, ?_, by simp only; omega⟩
   exact aC [0] zw8 zw0 zw8 zw5 zw20 rfl rfl
 have hge : l.length ≤ k := by have := of_decide_eq_false g; omega
 rw [List.drop_eq_nil_of_le hge, jI] at i2
 refine cO rfl rfl rfl ⟨rfl, rfl⟩ (.string (bs (out ++ [10]))) (fun w => bI w) (fun w => dB z58 w) ?_
 rw [i2]
 exact aH ⟨rfl, rfl⟩ (fun _ => rfl)
theorem bN0 (line wd : Str) (w : World) (hb : line.length ≤ 1000) :
   Calls Tryz.prog 154 #[.string (bs line), .string (bs wd)] w (Ret w fun v L => ∃ (z : Sl) (ns : List Int) (b : Bool), v = .tuple #[z.val ns.length, .bool b] ∧ (b = false → tZ line wd = none) ∧ (b = true → tZ line wd = some ns) ∧ L = [own z 3 aJ 1 ns]) := by
 have hcl := tV 32 line
 have hpt : ∀ x ∈ gL 32 line, x.length ≤ 1000 := fun x hx => Nat.le_trans (rB hx) hb
 have h0 : ¬ ((gL 32 line).headD [] = wd ∧ 2 ≤ (gL 32 line).length) → tZ line wd = none := fun h => if_neg h
 have h1 : ((gL 32 line).headD [] = wd ∧ 2 ≤ (gL 32 line).length) → tZ line wd = match gO (((gL 32 line).drop 1).take 5) with | none => none | some ns => if ns.length + 1 = (gL 32 line).length then some ns else none := fun h => if_pos h
 generalize tZ line wd = M at h0 h1 ⊢
 refine bZ Tryz.func154 rfl aA w _ rfl _ rfl [] trivial trivial _ _ (by decide) ?_
 refine aB _ fQ0 rfl rfl rfl rfl ⟨rfl, rfl⟩ (fun A w hW => (gP0 line 32 w (by omega))) ?_
 rintro v L ⟨y, rfl, rfl⟩
 generalize gL 32 line = ps at hcl hpt h0 h1 ⊢
 refine AllSl.mk fun l0 => ?_
 have hp0 : 0 < ps.length := by omega
 have hhd : ps.headD [] = ps[0] := by
   cases ps with
   | nil => simp at hp0
   | cons a r => rfl
 rw [hhd] at h0 h1
 refine aG kT aA rfl rfl rfl rfl rfl ⟨rfl, rfl⟩ (bY 1 rfl) 0 rfl z42 (fun ad => ?_)
 refine cO rfl rfl rfl ⟨rfl, rfl⟩ (.bool ((ps[0]) != wd)) (fun w => bI w) (fun w => wK w) ?_
 apply CaseB.mk <;> intro g
 · have e := h0 (fun h => by rw [h.1] at g; simp at g)
   exact bD [0] ⟨l0, [], false, rfl, fun _ => e, fun h => z105, rfl⟩ z147 rfl ⟨rfl, trivial⟩ (fun _ => rfl)
 have e0 : ps[0] = wd := by simpa using g
 refine CaseB.mk (fun g2 => ?_) (fun g2 => ?_)
 · have e := h0 (fun h => by have := of_decide_eq_true g2; omega)
   exact bD [0] ⟨l0, [], false, rfl, fun _ => e, fun h => z105, rfl⟩ z147 rfl ⟨rfl, trivial⟩ (fun _ => rfl)
 have hM := h1 ⟨e0, by have := of_decide_eq_false g2; omega⟩
 clear h0 h1
 refine LoopW.mk ⟨{ q : Nat × Sl × List Int // 1 ≤ q.1 ∧ q.1 ≤ 6 ∧ q.1 ≤ ps.length ∧ gO ((ps.drop 1).take 5) = lY q.2.2 (gO ((ps.drop q.1).take (6 - q.1))) ∧ q.2.2.length + 1 = q.1 },
   fun q => .mk [(6, .v (y.val ps.length)), (7, .v (q.1.2.1.val q.1.2.2.length)), (8, .v (.int .i64 (q.1.1 : Int)))] 0 0 [] [] [own q.1.2.1 3 aJ 1 q.1.2.2, own y 9 xR 1 ps],
   fun q => 6 - q.1.1, ⟨(1, l0, []), Nat.le_refl _, by show 1 ≤ 6; omega, hcl.1, by simp only [lY, List.nil_append]; cases gO ((ps.drop 1).take (6 - 1)) <;> rfl, rfl⟩, ?_, ?_⟩
 · exact aC [0, 1] zw2 zw0 zw2 zw5 zw4 rfl rfl
 rintro ⟨⟨i, z, ns⟩, i1, i2, i3, i4, i5⟩
 simp only at i1 i2 i3 i4 i5 ⊢
 apply CaseB.mk <;> intro g
 refine CaseB.mk (fun g2 => ?_) (fun g2 => ?_)
 · have hlt : i < ps.length := by have := of_decide_eq_true g; omega
   have h6 : i < 6 := by have := of_decide_eq_true g2; omega
   have hw := bE i _ hlt (by omega)
   obtain ⟨m, hm⟩ : ∃ m, 6 - i = m + 1 := ⟨5 - i, by omega⟩
   have hd : (ps.drop i).take (6 - i) = ps[i] :: (ps.drop (i + 1)).take (6 - (i + 1)) := by rw [hm, drop_take hlt, show 6 - (i + 1) = m by omega]
   rw [hd] at i4
   refine aG kT aA rfl rfl rfl rfl rfl ⟨rfl, rfl⟩ (bY 1 rfl) i rfl z42 (fun ad => ?_)
   obtain ⟨pt, hpe⟩ : ∃ pt, pt = ps[i] := ⟨_, rfl⟩
   have hpl : pt.length ≤ 1000 := by rw [hpe]; exact hpt _ (List.getElem_mem hlt)
   rw [← hpe] at i4 ⊢
   refine aB _ nY0 rfl rfl rfl rfl ⟨rfl, rfl⟩ (fun A w hW => (lP0 pt w (by omega))) ?_
   rintro v L ⟨rfl, rfl⟩
   cases hn : uT pt with
   | none =>
     refine CaseB.mk (fun g3 => ?_) (fun g3 => by simp at g3)
     refine AllSl.mk fun l2 => ?_
     have e : M = none := by rw [hM, i4.trans (vU hn)]
     exact bD [0] ⟨l2, [], false, rfl, fun _ => e, fun h => z105, rfl⟩ z147 rfl ⟨rfl, trivial⟩ (fun _ => rfl)
   | some n =>
     refine CaseB.mk (fun g3 => by simp at g3) (fun g3 => ?_)
     refine AllSl.mk fun b3 => ?_
     refine bU aF 1 aA (xs := ns) (ys := [n]) rfl rfl rfl rfl rfl rfl rfl rfl rfl (by decide) ⟨rfl, rfl⟩ rfl z34 z42 z42 (fun z3 => ?_)
     refine ⟨⟨(i + 1, z3, ns ++ [n]), show 1 ≤ i + 1 by omega, h6, hlt, i4.trans (vT hn), by simp; omega⟩, ?_, by simp only; omega⟩
     exact aC [0, 2] zw1 zw0 zw1 zw5 zw3 rfl rfl
 have hfin : gO ((ps.drop 1).take 5) = some ns := by
   rw [i4, show 6 - i = 0 by have := of_decide_eq_false g2; omega, List.take_zero]
   simp [gO, lY]
 rotate_left
 have hfin : gO ((ps.drop 1).take 5) = some ns := by
   rw [i4, List.drop_eq_nil_of_le z85, List.take_nil]
   simp [gO, lY]
 rotate_left
 all_goals
   rw [hfin] at hM
   simp only at hM
   have hw1 : IntKind.i64.wrap ((ps.length : Int) - 1) = (ps.length : Int) - 1 := cY (by omega) (by omega)
   by_cases he : ns.length + 1 = ps.length
   · rw [if_pos he] at hM
     exact bD [0] ⟨z, ns, _, rfl, fun h => by rw [hw1] at h; have h' : ¬ (ns.length : Int) = (ps.length : Int) - 1 := z96; omega, fun _ => hM, rfl⟩ z147 rfl ⟨rfl, trivial⟩ (fun _ => rfl)
   · rw [if_neg he] at hM
     exact bD [0] ⟨z, ns, _, rfl, fun _ => hM, fun h => by rw [hw1] at h; have h' : (ns.length : Int) = (ps.length : Int) - 1 := z96; omega, rfl⟩ z147 rfl ⟨rfl, trivial⟩ (fun _ => rfl)
def xW (i : Nat) (s : Str) : Option Op := if i = 0 then fC s else if s.head? = some 32 then fC (s.drop 1) else none
def rF (i : Nat) : List Str → Option (List Op)
 | [] => some []
 | s :: r => match xW i s with
   | none => none
   | some o => match iJ0 r with
     | none => none
     | some l => some (o :: l)
theorem pS0 : ∀ l : List Str, opsM l = rF 0 l
 | [] => rfl
 | _ :: _ => rfl
theorem pT0 {i : Nat} (h : 1 ≤ i) : ∀ l : List Str, iJ0 l = rF i l
 | [] => rfl
 | s :: r => by simp only [iJ0, rF, xW, if_neg (show ¬ i = 0 by omega)]; rfl
def nP (ns : List Op) (o : Option (List Op)) : Option (List Op) := match o with | none => none | some l => some (ns ++ l)
theorem uA {ns : List Op} {s : Str} {r : List Str} {o : Op} {i : Nat} (h : xW i s = some o) : nP ns (rF i (s :: r)) = nP (ns ++ [o]) (rF (i + 1) r) := by
 rw [← pT0 (by omega) r, rF, h]
 cases iJ0 r with
 | none => rfl
 | some l => simp [nP]
theorem bO0 {ns : List Op} {s : Str} {r : List Str} {i : Nat} (h : xW i s = none) : nP ns (rF i (s :: r)) = none := by
 rw [rF, h]; rfl
theorem iN0 (line : Str) (w : World) (hb : line.length ≤ 1000) :
   Calls Tryz.prog 155 #[.string (bs line)] w (Ret w fun v L => ∃ (z : Sl) (ns : List Op) (b : Bool), v = .tuple #[z.val ns.length, .bool b] ∧ (b = false → mH line = none) ∧ (b = true → mH line = some ns) ∧ L = [own z 65 cOp 3 ns]) := by
 have hcl := tV 44 (line.drop 7)
 have hdl : (line.drop 7).length ≤ 1000 := by simp; omega
 have hpt : ∀ x ∈ gL 44 (line.drop 7), x.length ≤ 1000 := fun x hx => Nat.le_trans (rB hx) hdl
 have h0 : line = [116, 104, 114, 101, 97, 100] → mH line = some [] := fun h => if_pos h
 have h1 : line ≠ [116, 104, 114, 101, 97, 100] → (line.length < 7 ∨ line.take 7 ≠ [116, 104, 114, 101, 97, 100, 32]) → mH line = none := fun h h2 => by rw [mH, if_neg h, if_pos h2]
 have h2 : line ≠ [116, 104, 114, 101, 97, 100] → ¬ (line.length < 7 ∨ line.take 7 ≠ [116, 104, 114, 101, 97, 100, 32]) → mH line = match rF 0 ((gL 44 (line.drop 7)).take 9) with | none => none | some l => if (gL 44 (line.drop 7)).length ≤ 8 then some l else none := fun h h2 => by rw [mH, if_neg h, if_neg h2, pS0]; rfl
 generalize mH line = M at h0 h1 h2 ⊢
 refine bV Tryz.func155 rfl aA w _ rfl _ rfl [] trivial trivial _ (by decide) ?_
 refine AllSl.mk fun l0 => ?_
 refine cO rfl rfl rfl ⟨rfl, rfl⟩ (.bool (line == [116, 104, 114, 101, 97, 100])) (fun w => bI w) (fun w => wJ w) ?_
 apply CaseB.mk <;> intro g
 · have e := h0 z99
   exact bD [0] ⟨l0, [], true, rfl, fun h => z105, fun _ => e, rfl⟩ z147 rfl ⟨rfl, trivial⟩ (fun _ => rfl)
 have n0 : line ≠ [116, 104, 114, 101, 97, 100] := by simpa using g
 refine fJ aA rfl rfl rfl rfl rfl rfl ⟨rfl, rfl⟩ ?_
 apply CaseB.mk <;> intro g
 · have e := h1 n0 (.inl (by have := of_decide_eq_true g; omega))
   exact bD [0] ⟨l0, [], false, rfl, fun _ => e, fun h => z105, rfl⟩ z147 rfl ⟨rfl, trivial⟩ (fun _ => rfl)
 have l7 : 7 ≤ line.length := by have := of_decide_eq_false g; omega
 refine mJ aA rfl rfl rfl ⟨rfl, rfl⟩ rfl rfl (0) (7) rfl rfl z42 z42 ?_
 have ht7 : (line.drop 0).take (7 - 0) = line.take 7 := rfl
 rw [ht7]
 refine cO rfl rfl rfl ⟨rfl, rfl⟩ (.bool ((line.take 7) != [116, 104, 114, 101, 97, 100, 32])) (fun w => bI w) (fun w => wK w) ?_
 refine CaseB.mk (fun g2 => ?_) (fun g2 => ?_)
 · have e := h1 n0 (.inr z94)
   exact bD [0] ⟨l0, [], false, rfl, fun _ => e, fun h => z105, rfl⟩ z147 rfl ⟨rfl, trivial⟩ (fun _ => rfl)
 have hM := h2 n0 (fun h => by
   rcases h with h | h
   · omega
   · exact h z94)
 clear h0 h1 h2
 refine mJ aA rfl rfl rfl ⟨rfl, rfl⟩ rfl rfl (7) (line.length) rfl rfl z42 z42 ?_
 have hd7 : (line.drop 7).take (line.length - 7) = line.drop 7 := List.take_of_length_le z87
 rw [hd7]
 refine aB _ fQ0 rfl rfl rfl rfl ⟨rfl, rfl⟩ (fun A w hW => (gP0 (line.drop 7) 44 w (by omega))) ?_
 rintro v L ⟨y, rfl, rfl⟩
 generalize gL 44 (line.drop 7) = ps at hcl hpt hM ⊢
 refine LoopW.mk ⟨{ q : Nat × Sl × List Op // q.1 ≤ 9 ∧ q.1 ≤ ps.length ∧ rF 0 (ps.take 9) = nP q.2.2 (rF q.1 ((ps.drop q.1).take (9 - q.1))) ∧ q.2.2.length = q.1 },
   fun q => .mk [(4, .v (q.1.2.1.val q.1.2.2.length)), (5, .v (y.val ps.length)), (6, .v (.int .i64 (q.1.1 : Int)))] 0 0 [] [] [own q.1.2.1 65 cOp 3 q.1.2.2, own y 9 xR 1 ps],
   fun q => 9 - q.1.1, ⟨(0, l0, []), Nat.zero_le _, Nat.zero_le _, by simp only [nP, List.nil_append, List.drop_zero]; cases rF 0 (ps.take 9) <;> rfl, rfl⟩, ?_, ?_⟩
 · exact aC [1, 0] zw2 zw0 zw2 zw5 zw4 rfl rfl
 rintro ⟨⟨i, z, ns⟩, i1, i2, i3, i4⟩
 simp only at i1 i2 i3 i4 ⊢
 apply CaseB.mk <;> intro g
 refine CaseB.mk (fun g2 => ?_) (fun g2 => ?_)
 · have hlt : i < ps.length := by have := of_decide_eq_true g; omega
   have h8 : i < 9 := by have := of_decide_eq_true g2; omega
   have hw := bE i _ hlt (by omega)
   obtain ⟨m, hm⟩ : ∃ m, 9 - i = m + 1 := ⟨8 - i, by omega⟩
   have hd : (ps.drop i).take (9 - i) = ps[i] :: (ps.drop (i + 1)).take (9 - (i + 1)) := by rw [hm, drop_take hlt, show 9 - (i + 1) = m by omega]
   rw [hd] at i3
   refine aG kT aA rfl rfl rfl rfl rfl ⟨rfl, rfl⟩ (bY 1 rfl) i rfl z42 (fun ad => ?_)
   obtain ⟨pt, hpe⟩ : ∃ pt, pt = ps[i] := ⟨_, rfl⟩
   have hpl : pt.length ≤ 1000 := by rw [hpe]; exact hpt _ (List.getElem_mem hlt)
   rw [← hpe] at i3 ⊢
   have hbad : xW i pt = none → M = none := fun h => by rw [hM, i3.trans (bO0 h)]
   refine CaseB.mk (fun g3 => ?_) (fun g3 => ?_)
   · have hi0 : ¬ i = 0 := by have := of_decide_eq_true g3; omega
     have hop : xW i pt = if pt.head? = some 32 then fC (pt.drop 1) else none := if_neg hi0
     refine cO rfl rfl rfl ⟨rfl, rfl⟩ (.bool (pt == [])) (fun w => bI w) (fun w => wJ w) ?_
     refine CaseB.mk (fun g4 => ?_) (fun g4 => ?_)
     · have e0 : pt = [] := by simpa using g4
       have e := hbad (by rw [hop, e0]; rfl)
       refine AllSl.mk fun l2 => ?_
       exact bD [0] ⟨l2, [], false, rfl, fun _ => e, fun h => z105, rfl⟩ z147 rfl ⟨rfl, trivial⟩ (fun _ => rfl)
     have hpp : 0 < pt.length := by
       cases pt with
       | nil => simp at g4
       | cons a r => simp
     have hh : pt.head? = some pt[0] := by rw [List.head?_eq_getElem?, List.getElem?_eq_getElem hpp]
     refine kC aA rfl rfl rfl rfl ⟨rfl, rfl⟩ (0) rfl z42 ?_
     refine CaseB.mk (fun g5 => ?_) (fun g5 => ?_)
     · have e32 : ¬ pt[0] = 32 := fun h => by rw [h] at g5; simp at g5
       have e := hbad (by rw [hop, hh, if_neg (fun h => e32 (Option.some.inj h))])
       refine AllSl.mk fun l2 => ?_
       exact bD [0] ⟨l2, [], false, rfl, fun _ => e, fun h => z105, rfl⟩ z147 rfl ⟨rfl, trivial⟩ (fun _ => rfl)
     have e32 : pt[0] = 32 := (dG0 _ 32).1 (by simpa using g5)
     rw [hh, e32, if_pos rfl] at hop
     refine CaseB.mk (fun g6 => ?_) (fun g6 => by rw [g3] at g6; cases g6)
     refine mJ aA rfl rfl rfl ⟨rfl, rfl⟩ rfl rfl (1) (pt.length) rfl rfl z42 z42 ?_
     have hc1 : (pt.drop 1).take (pt.length - 1) = pt.drop 1 := List.take_of_length_le z87
     rw [hc1]
     have htl : (pt.drop 1).length ≤ 1000 := by simp; omega
     generalize pt.drop 1 = tx at hop htl ⊢
     refine aB _ nZ0 rfl rfl rfl rfl ⟨rfl, rfl⟩ (fun A w hW => (zS tx w htl)) ?_
     rintro v L ⟨rfl, rfl⟩
     cases ho : fC tx with
     | none =>
       refine CaseB.mk (fun g7 => ?_) (fun g7 => by simp at g7)
       refine AllSl.mk fun l2 => ?_
       have e := hbad (hop.trans ho)
       exact bD [0] ⟨l2, [], false, rfl, fun _ => e, fun h => z105, rfl⟩ z147 rfl ⟨rfl, trivial⟩ (fun _ => rfl)
     | some o =>
       refine CaseB.mk (fun g7 => by simp at g7) (fun g7 => ?_)
       refine AllSl.mk fun b3 => ?_
       refine bU oE 1 aA (xs := ns) (ys := [o]) rfl rfl rfl rfl rfl rfl rfl rfl rfl (by decide) ⟨rfl, rfl⟩ rfl z34 z42 z42 (fun z3 => ?_)
       refine ⟨⟨(i + 1, z3, ns ++ [o]), h8, hlt, i3.trans (uA (hop.trans ho)), by simp; omega⟩, ?_, by simp only; omega⟩
       exact aC [0, 2] zw1 zw0 zw1 zw5 zw3 rfl rfl
   have hi0 : i = 0 := by have := of_decide_eq_false g3; omega
   have hop : xW i pt = fC pt := if_pos hi0
   refine CaseB.mk (fun g6 => by rw [g3] at g6; cases g6) (fun g6 => ?_)
   have htl := hpl
   refine aB _ nZ0 rfl rfl rfl rfl ⟨rfl, rfl⟩ (fun A w hW => (zS pt w htl)) ?_
   rintro v L ⟨rfl, rfl⟩
   cases ho : fC pt with
   | none =>
     refine CaseB.mk (fun g7 => ?_) (fun g7 => by simp at g7)
     refine AllSl.mk fun l2 => ?_
     have e := hbad (hop.trans ho)
     exact bD [0] ⟨l2, [], false, rfl, fun _ => e, fun h => z105, rfl⟩ z147 rfl ⟨rfl, trivial⟩ (fun _ => rfl)
   | some o =>
     refine CaseB.mk (fun g7 => by simp at g7) (fun g7 => ?_)
     refine AllSl.mk fun b3 => ?_
     refine bU oE 1 aA (xs := ns) (ys := [o]) rfl rfl rfl rfl rfl rfl rfl rfl rfl (by decide) ⟨rfl, rfl⟩ rfl z34 z42 z42 (fun z3 => ?_)
     refine ⟨⟨(i + 1, z3, ns ++ [o]), h8, hlt, i3.trans (uA (hop.trans ho)), by simp; omega⟩, ?_, by simp only; omega⟩
     exact aC [0, 2] zw1 zw0 zw1 zw5 zw3 rfl rfl
 have hfin : rF 0 (ps.take 9) = some ns := by
   rw [i3, show 9 - i = 0 by have := of_decide_eq_false g2; omega, List.take_zero]
   simp [rF, nP]
 rotate_left
 have hfin : rF 0 (ps.take 9) = some ns := by
   rw [i3, List.drop_eq_nil_of_le z85, List.take_nil]
   simp [rF, nP]
 rotate_left
 all_goals
   rw [hfin] at hM
   simp only at hM
   by_cases he : ps.length ≤ 8
   · rw [if_pos he] at hM
     exact bD [0] ⟨z, ns, _, rfl, fun h => by have := of_decide_eq_false h; omega, fun _ => hM, rfl⟩ z147 rfl ⟨rfl, trivial⟩ (fun _ => rfl)
   · rw [if_neg he] at hM
     exact bD [0] ⟨z, ns, _, rfl, fun _ => hM, fun h => by have := of_decide_eq_true h; omega, rfl⟩ z147 rfl ⟨rfl, trivial⟩ (fun _ => rfl)
theorem OpOk.near {p : Prog} (ok : ProgOk p) {o : Op} (h : OpOk p o) : o.near := by
 obtain ⟨h1, h2, h3, h4, h5⟩ := h
 have hs : p.shared o.kind ≤ 4 := by
   have := ok.sems.1
   have := ok.groups.1
   have := ok.barriers.1
   have := ok.rooms.1
   unfold Prog.shared
   repeat' split
   all_goals omega
 have ha : -100 ≤ o.arg ∧ o.arg ≤ 1000 := by
   unfold Prog.argOk at h5
   split at h5
   · have hg : p.sems.getD o.on.toNat 0 ≤ 9 := by
       rw [List.getD_eq_getElem?_getD]
       cases e : p.sems[o.on.toNat]? with
       | none => simp
       | some x => exact (ok.sems.2 x (List.mem_of_getElem? e)).2
     omega
   · split at h5
     · omega
     · split at h5
       · simp [aX] at h5; omega
       · omega
 exact ⟨by omega, by omega, by omega, by omega⟩
theorem nQ {l : List Int} {a b : Int} (h : iK l a b) (ha : -1000 ≤ a) (hb : b ≤ 1000) : ∀ x ∈ l, xV x := fun x hx => by
 have := h.2 x hx
 exact ⟨by omega, by omega⟩
theorem iO0 {first : Bool} {out : Str} {l : List Op} {k : Nat} (h : k < l.length) : pF first out (l.drop k) = pF false (((if first = true then out else out ++ [44]) ++ [32]) ++ gC l[k]) (l.drop (k + 1)) := by
 rw [List.drop_eq_getElem_cons h, pF]
theorem yG {out : Str} {l : List (List Op)} {k : Nat} (h : k < l.length) : gY out (l.drop k) = gY (pF true (out ++ [116, 104, 114, 101, 97, 100]) l[k] ++ [10]) (l.drop (k + 1)) := by
 rw [List.drop_eq_getElem_cons h, gY]
theorem iP0 (p : ProgH) (w : World) (h : At w [fR (aW p)]) (ok : ProgOk p.pure) :
   Calls Tryz.prog 156 #[dO p] w (Ret w fun v L => v = .string (bs (tY p.pure)) ∧ L = []) := by
 have s0 : p.sems.length ≤ 3 := ok.sems.1
 have s1 : p.groups.length ≤ 3 := ok.groups.1
 have s2 : p.barriers.length ≤ 3 := ok.barriers.1
 have s3 : p.rooms.length ≤ 3 := ok.rooms.1
 have lt : p.pure.threads.length = p.threads.length := by simp [ProgH.pure]
 have s4 : p.threads.length ≤ 4 := by rw [← lt]; exact ok.n4
 have q0 := rC [115, 101, 109, 115] p.sems
 have q1 := rC [103, 114, 111, 117, 112, 115] p.groups
 have q2 := rC [98, 97, 114, 114, 105, 101, 114, 115] p.barriers
 have q3 := rC [114, 111, 111, 109, 115] p.rooms
 simp only [List.length_cons, List.length_nil] at q0 q1 q2 q3
 refine bV Tryz.func156 rfl aA w _ rfl _ rfl _ h ⟨rfl, rfl, trivial⟩ _ (by decide) ?_
 refine aB _ fL0 rfl rfl rfl rfl ⟨rfl, rfl⟩ (fun A w hW => mD p w ⟨hW.get 0 rfl (.refl _), trivial⟩ ⟨by omega, by omega, by omega, by omega⟩) ?_
 rintro v L ⟨b0, rfl, hb0, rfl⟩
 refine CaseB.mk (fun g => by rw [hb0.2 ok] at g; cases g) (fun _ => ?_)
 refine aE aA z103 z103 z103 200 [((0, 0), .v (p.h0.val p.sems.length)), ((0, 1), .v (p.h1.val p.groups.length)), ((0, 2), .v (p.h2.val p.barriers.length)), ((0, 3), .v (p.h3.val p.rooms.length)), ((0, 4), .v (p.h4.val p.threads.length))] [] [] z119 z136 trivial rfl ?_
 refine bM _ fW0 rfl rfl rfl rfl ⟨rfl, rfl⟩ (fun A w hW => (bM0 [115, 101, 109, 115] p.h0 p.sems w ⟨hW.get 0 rfl (.ofR (eM p)), trivial⟩ (by decide) (by omega) (nQ ok.sems (by decide) (by decide)))) ?_
 rintro v L ⟨rfl, rfl⟩
 refine bM _ fW0 rfl rfl rfl rfl ⟨rfl, rfl⟩ (fun A w hW => (bM0 [103, 114, 111, 117, 112, 115] p.h1 p.groups w ⟨hW.get 0 rfl (.ofR (iV p)), trivial⟩ (by decide) (by omega) (nQ ok.groups (by decide) (by decide)))) ?_
 rintro v L ⟨rfl, rfl⟩
 refine lN rfl rfl rfl ⟨rfl, rfl⟩ (.string (bs ((fF [115, 101, 109, 115] p.sems) ++ (fF [103, 114, 111, 117, 112, 115] p.groups)))) (fun w => bI w) (fun w => dB (by omega) w) ?_
 refine bM _ fW0 rfl rfl rfl rfl ⟨rfl, rfl⟩ (fun A w hW => (bM0 [98, 97, 114, 114, 105, 101, 114, 115] p.h2 p.barriers w ⟨hW.get 0 rfl (.ofR (eH p)), trivial⟩ (by decide) (by omega) (nQ ok.barriers (by decide) (by decide)))) ?_
 rintro v L ⟨rfl, rfl⟩
 refine lN rfl rfl rfl ⟨rfl, rfl⟩ (.string (bs ((fF [115, 101, 109, 115] p.sems ++ fF [103, 114, 111, 117, 112, 115] p.groups) ++ (fF [98, 97, 114, 114, 105, 101, 114, 115] p.barriers)))) (fun w => bI w) (fun w => dB (by simp only [List.length_append]; omega) w) ?_
 refine bM _ fW0 rfl rfl rfl rfl ⟨rfl, rfl⟩ (fun A w hW => (bM0 [114, 111, 111, 109, 115] p.h3 p.rooms w ⟨hW.get 0 rfl (.ofR (gN p)), trivial⟩ (by decide) (by omega) (nQ ok.rooms (by decide) (by decide)))) ?_
 rintro v L ⟨rfl, rfl⟩
 refine lN rfl rfl rfl ⟨rfl, rfl⟩ (.string (bs (((fF [115, 101, 109, 115] p.sems ++ fF [103, 114, 111, 117, 112, 115] p.groups) ++ fF [98, 97, 114, 114, 105, 101, 114, 115] p.barriers) ++ (fF [114, 111, 111, 109, 115] p.rooms)))) (fun w => bI w) (fun w => dB (by simp only [List.length_append]; omega) w) ?_
 have hF : tY p.pure = gY (((fF [115, 101, 109, 115] p.sems ++ fF [103, 114, 111, 117, 112, 115] p.groups) ++ fF [98, 97, 114, 114, 105, 101, 114, 115] p.barriers) ++ fF [114, 111, 111, 109, 115] p.rooms) p.pure.threads := rfl
 rw [hF]
 have hol : ((((fF [115, 101, 109, 115] p.sems ++ fF [103, 114, 111, 117, 112, 115] p.groups) ++ fF [98, 97, 114, 114, 105, 101, 114, 115] p.barriers) ++ fF [114, 111, 111, 109, 115] p.rooms)).length ≤ 1000 := by simp only [List.length_append]; omega
 clear hF q0 q1 q2 q3
 generalize (((fF [115, 101, 109, 115] p.sems ++ fF [103, 114, 111, 117, 112, 115] p.groups) ++ fF [98, 97, 114, 114, 105, 101, 114, 115] p.barriers) ++ fF [114, 111, 111, 109, 115] p.rooms) = o1 at hol ⊢
 refine LoopW.mk ⟨{ q : Nat × Str // q.1 ≤ p.threads.length ∧ gY o1 p.pure.threads = gY q.2 (p.pure.threads.drop q.1) ∧ q.2.length ≤ 1000 + 1000 * q.1 },
   fun q => .mk [(1, .p 0 0), (3, .v (.string (bs q.1.2))), (4, .v (.int .i64 (q.1.1 : Int)))] 1 0 [(0, 26, 5)] [((0, 4), .v (p.h4.val p.threads.length))] [fR (aW p)],
   fun q => p.threads.length - q.1.1, ⟨(0, o1), Nat.zero_le _, rfl, by simpa using hol⟩, ?_, ?_⟩
 · exact aC [0] zw2 zw0 zw2 zw5 zw4 rfl rfl
 rintro ⟨⟨i, out⟩, i1, i2, i3⟩
 simp only at i1 i2 i3 ⊢
 apply CaseB.mk <;> intro g
 · have hlt : i < p.threads.length := by have := of_decide_eq_true g; omega
   have hlt2 : i < p.pure.threads.length := by omega
   have hw := bE i _ hlt (by omega)
   have ht : p.pure.threads[i] = (p.threads[i]).m := by simp [ProgH.pure]
   have hopk := ok.ops _ (List.getElem_mem hlt2)
   rw [ht] at hopk
   rw [yG hlt2, ht] at i2
   refine cO rfl rfl rfl ⟨rfl, rfl⟩ (.string (bs (out ++ [116, 104, 114, 101, 97, 100]))) (fun w => bI w) (fun w => dB z78 w) ?_
   obtain ⟨ops, hops⟩ : ∃ ops, ops = (p.threads[i]).m := ⟨_, rfl⟩
   rw [← hops] at hopk i2
   refine LoopW.mk ⟨{ q : Nat × Str // q.1 ≤ ops.length ∧ pF true (out ++ [116, 104, 114, 101, 97, 100]) ops = pF (decide (q.1 = 0)) q.2 (ops.drop q.1) ∧ q.2.length ≤ out.length + 6 + 62 * q.1 },
     fun q => .mk [(1, .p 0 0), (3, .v (.string (bs q.1.2))), (4, .v (.int .i64 (i : Int))), (5, .v (.int .i64 (q.1.1 : Int)))] 1 0 [(0, 26, 5)] [((0, 4), .v (p.h4.val p.threads.length))] [fR (aW p)],
     fun q => ops.length - q.1.1, ⟨(0, out ++ [116, 104, 114, 101, 97, 100]), Nat.zero_le _, rfl, by simp⟩, ?_, ?_⟩
   · exact aC [0] zw2 zw0 zw2 zw5 zw4 rfl rfl
   rintro ⟨⟨k, o2⟩, k1, k2, k3⟩
   simp only at k1 k2 k3 ⊢
   subst hops
   refine aG dT aA rfl rfl rfl rfl rfl ⟨rfl, rfl⟩ (aL 0 rfl (.trans (.R_R (bB p)) (.ofR aY))) i rfl z42 (fun ad => ?_)
   refine CaseB.mk (fun g2 => ?_) (fun g2 => ?_)
   · have hkl : k < (p.threads[i]).m.length := by have := of_decide_eq_true g2; omega
     have hw2 := bE k _ hkl (by omega)
     have hne := OpOk.near ok (hopk.2 _ (List.getElem_mem hkl))
     have hfl := eW0 ((p.threads[i]).m[k])
     rw [iO0 hkl] at k2
     refine CaseB.mk (fun g3 => ?_) (fun g3 => ?_)
     · have hk0 : ¬ k = 0 := by have := of_decide_eq_true g3; omega
       rw [decide_eq_false hk0, if_neg (by decide)] at k2
       refine cO rfl rfl rfl ⟨rfl, rfl⟩ (.string (bs (o2 ++ [44]))) (fun w => bI w) (fun w => dB z78 w) ?_
       refine cO rfl rfl rfl ⟨rfl, rfl⟩ (.string (bs ((o2 ++ [44]) ++ [32]))) (fun w => bI w) (fun w => dB z58 w) ?_
       refine aG dT aA rfl rfl rfl rfl rfl ⟨rfl, rfl⟩ (aL 0 rfl (.trans (.R_R (bB p)) (.ofR aY))) i rfl z42 (fun ad2 => ?_)
       refine aG oE aA rfl rfl rfl rfl rfl ⟨rfl, rfl⟩ (aL 0 rfl (.trans (.R_R (bB p)) (.ofR (gA _ _ i hlt)))) k rfl hkl (fun ad3 => ?_)
       refine aB _ jN0 rfl rfl rfl rfl ⟨rfl, rfl⟩ (fun A w hW => (bL0 _ w hne)) ?_
       rintro v L ⟨rfl, rfl⟩
       refine cO rfl rfl rfl ⟨rfl, rfl⟩ (.string (bs (((o2 ++ [44]) ++ [32]) ++ (gC ((p.threads[i]).m[k]))))) (fun w => bI w) (fun w => dB z58 w) ?_
       refine ⟨⟨(k + 1, ((o2 ++ [44]) ++ [32]) ++ gC ((p.threads[i]).m[k])), hkl, by rw [decide_eq_false (by omega)]; exact k2, by simp only [List.length_append, List.length_cons, List.length_nil]; omega⟩, ?_, by simp only; omega⟩
       exact aC [0] zw8 zw0 zw8 zw5 zw20 rfl rfl
     have hk0 : k = 0 := by have := of_decide_eq_false g3; omega
     rw [decide_eq_true hk0, if_pos rfl] at k2
     refine cO rfl rfl rfl ⟨rfl, rfl⟩ (.string (bs (o2 ++ [32]))) (fun w => bI w) (fun w => dB z58 w) ?_
     refine aG dT aA rfl rfl rfl rfl rfl ⟨rfl, rfl⟩ (aL 0 rfl (.trans (.R_R (bB p)) (.ofR aY))) i rfl z42 (fun ad2 => ?_)
     refine aG oE aA rfl rfl rfl rfl rfl ⟨rfl, rfl⟩ (aL 0 rfl (.trans (.R_R (bB p)) (.ofR (gA _ _ i hlt)))) k rfl hkl (fun ad3 => ?_)
     refine aB _ jN0 rfl rfl rfl rfl ⟨rfl, rfl⟩ (fun A w hW => (bL0 _ w hne)) ?_
     rintro v L ⟨rfl, rfl⟩
     refine cO rfl rfl rfl ⟨rfl, rfl⟩ (.string (bs ((o2 ++ [32]) ++ (gC ((p.threads[i]).m[k]))))) (fun w => bI w) (fun w => dB z58 w) ?_
     refine ⟨⟨(k + 1, (o2 ++ [32]) ++ gC ((p.threads[i]).m[k])), hkl, by rw [decide_eq_false (by omega)]; exact k2, by simp only [List.length_append, List.length_cons, List.length_nil]; omega⟩, ?_, by simp only; omega⟩
     exact aC [0] zw8 zw0 zw8 zw5 zw20 rfl rfl
   have hge : (p.threads[i]).m.length ≤ k := by have := of_decide_eq_false g2; omega
   rw [List.drop_eq_nil_of_le hge, pF] at k2
   rw [k2] at i2
   refine cO rfl rfl rfl ⟨rfl, rfl⟩ (.string (bs (o2 ++ [10]))) (fun w => bI w) (fun w => dB z58 w) ?_
   refine ⟨⟨(i + 1, o2 ++ [10]), hlt, i2, by simp only [List.length_append, List.length_cons, List.length_nil]; omega⟩, ?_, by simp only; omega⟩
   exact aC [0] zw1 zw0 zw1 zw5 zw3 rfl rfl
 have hge : p.pure.threads.length ≤ i := by have := of_decide_eq_false g; omega
 rw [List.drop_eq_nil_of_le hge, gY] at i2
 rw [i2]
 exact aH ⟨rfl, rfl⟩ (fun _ => rfl)
def lS0 : Prog := ⟨[], [], [], [], []⟩
def pU0 : ProgH := ⟨[], [], [], [], [], ⟨none, 0⟩, ⟨none, 0⟩, ⟨none, 0⟩, ⟨none, 0⟩, ⟨none, 0⟩⟩
def nX (ls : List Str) : List Str := (ls.take (ls.length - 1)).take 9
theorem fC0 {α β : Type} (f : β → α → β) (z : β) (l : List α) {k : Nat} (h : k < l.length) : (l.take (k + 1)).foldl f z = f ((l.take k).foldl f z) l[k] := by
 rw [List.take_succ_eq_append_getElem h, List.foldl_append]; rfl
theorem dK0 (t : Str) (w : World) (hb : t.length ≤ 1000) (ok : ProgOk (sI t)) (hf : tY (sI t) = t) :
   Calls Tryz.prog 99 #[.string (bs t)] w (Ret w fun v L => ∃ p : ProgH, v = .tuple #[dO p, .bool true] ∧ p.pure = sI t ∧ L = [fO (aW p)]) := by
 have hcl := tV 10 t
 have hpt : ∀ x ∈ gL 10 t, x.length ≤ 1000 := fun x hx => Nat.le_trans (rB hx) hb
 have hM : sI t = (nX (gL 10 t)).foldl mA lS0 := rfl
 generalize sI t = M at ok hf hM ⊢
 refine bV Tryz.func99 rfl aA w _ rfl _ rfl [] trivial trivial _ (by decide) ?_
 refine aB _ fQ0 rfl rfl rfl rfl ⟨rfl, rfl⟩ (fun A w hW => (gP0 t 10 w (by omega))) ?_
 rintro v L ⟨y, rfl, rfl⟩
 generalize gL 10 t = ls at hcl hpt hM ⊢
 have hLl : (nX ls).length ≤ 9 ∧ (nX ls).length + 1 ≤ ls.length ∧ ((nX ls).length = 9 ∨ (nX ls).length + 1 = ls.length) := by
   simp only [nX, List.length_take]; omega
 have hLi : ∀ (i : Nat) (h : i < (nX ls).length) (h2 : i < ls.length), (nX ls)[i] = ls[i] := fun i h h2 => by simp [nX]
 generalize nX ls = Ls at hM hLl hLi
 refine LoopW.mk ⟨{ q : Nat × ProgH // q.1 ≤ Ls.length ∧ q.2.pure = (Ls.take q.1).foldl mA lS0 ∧ q.2.threads.length ≤ q.1 },
   fun q => .mk [(0, .v (.string (bs t))), (2, .p 0 0), (4, .v (y.val ls.length)), (5, .p 1 0), (6, .v (.int .i64 (q.1.1 : Int)))] 2 0 [(0, 26, 5), (1, 26, 5)] [((1, 0), .v (q.1.2.h0.val q.1.2.sems.length)), ((1, 1), .v (q.1.2.h1.val q.1.2.groups.length)), ((1, 2), .v (q.1.2.h2.val q.1.2.barriers.length)), ((1, 3), .v (q.1.2.h3.val q.1.2.rooms.length)), ((1, 4), .v (q.1.2.h4.val q.1.2.threads.length))] [own q.1.2.h0 3 aJ 1 q.1.2.sems, own q.1.2.h1 3 aJ 1 q.1.2.groups, own q.1.2.h2 3 aJ 1 q.1.2.barriers, own q.1.2.h3 3 aJ 1 q.1.2.rooms, own q.1.2.h4 68 kR 1 q.1.2.threads, fO (q.1.2.threads.flatMap pX), own y 9 xR 1 ls],
   fun q => Ls.length - q.1.1, ⟨(0, pU0), Nat.zero_le _, rfl, Nat.le_refl _⟩, ?_, ?_⟩
 · refine aO (.joinO [] (Gs := []) trivial rfl (.refl _)) ?_
   exact aC [95, 96, 97, 98, 99, 0, 1] zw2 zw0 zw2 zw5 zw4 rfl rfl
 rintro ⟨⟨i, p⟩, i1, i2, i3⟩
 simp only at i1 i2 i3 ⊢
 have hw0 : IntKind.i64.wrap ((i : Int) + 1) = ((i + 1 : Nat) : Int) := bE i 100 (by omega) (by omega)
 apply CaseB.mk <;> intro g
 refine CaseB.mk (fun g2 => ?_) (fun g2 => ?_)
 · rw [hw0] at g
   have hlt : i < ls.length := by have := of_decide_eq_true g; omega
   have hiL : i < Ls.length := by have := of_decide_eq_true g; have := of_decide_eq_true g2; omega
   have hst := fC0 mA lS0 Ls hiL
   rw [← i2, hLi i hiL hlt] at hst
   obtain ⟨ln, hln⟩ : ∃ ln, ln = ls[i] := ⟨_, rfl⟩
   have hll : ln.length ≤ 1000 := by rw [hln]; exact hpt _ (List.getElem_mem hlt)
   rw [← hln] at hst
   refine aG kT aA rfl rfl rfl rfl rfl ⟨rfl, rfl⟩ (bY 6 rfl) i rfl z42 (fun ad0 => ?_)
   rw [← hln]
   refine aB _ fR0 rfl rfl rfl rfl ⟨rfl, rfl⟩ (fun A w hW => (bN0 ln [115, 101, 109, 115] w hll)) ?_
   rintro v L ⟨z0, n0, b0, rfl, f0, t0, rfl⟩
   refine aG kT aA rfl rfl rfl rfl rfl ⟨rfl, rfl⟩ (bY 7 rfl) i rfl z42 (fun ad1 => ?_)
   rw [← hln]
   refine aB _ fR0 rfl rfl rfl rfl ⟨rfl, rfl⟩ (fun A w hW => (bN0 ln [103, 114, 111, 117, 112, 115] w hll)) ?_
   rintro v L ⟨z1, n1, b1, rfl, f1, t1, rfl⟩
   refine aG kT aA rfl rfl rfl rfl rfl ⟨rfl, rfl⟩ (bY 8 rfl) i rfl z42 (fun ad2 => ?_)
   rw [← hln]
   refine aB _ fR0 rfl rfl rfl rfl ⟨rfl, rfl⟩ (fun A w hW => (bN0 ln [98, 97, 114, 114, 105, 101, 114, 115] w hll)) ?_
   rintro v L ⟨z2, n2, b2, rfl, f2, t2, rfl⟩
   refine aG kT aA rfl rfl rfl rfl rfl ⟨rfl, rfl⟩ (bY 9 rfl) i rfl z42 (fun ad3 => ?_)
   rw [← hln]
   refine aB _ fR0 rfl rfl rfl rfl ⟨rfl, rfl⟩ (fun A w hW => (bN0 ln [114, 111, 111, 109, 115] w hll)) ?_
   rintro v L ⟨z3, n3, b3, rfl, f3, t3, rfl⟩
   refine aG kT aA rfl rfl rfl rfl rfl ⟨rfl, rfl⟩ (bY 10 rfl) i rfl z42 (fun ad4 => ?_)
   rw [← hln]
   refine aB _ cl155 rfl rfl rfl rfl ⟨rfl, rfl⟩ (fun A w hW => (iN0 ln w hll)) ?_
   rintro v L ⟨z4, n4, b4, rfl, f4, t4, rfl⟩
   refine CaseB.mk (fun e0 => ?_) (fun e0 => ?_)
   · have hn : mA p.pure ln = (ProgH.pure { p with sems := n0, h0 := z0 }) := by simp only [mA, t0 e0]; rfl
     refine ⟨⟨(i + 1, { p with sems := n0, h0 := z0 }), hiL, by rw [hst, hn], show p.threads.length ≤ i + 1 by omega⟩, ?_, by simp only; omega⟩
     exact aC [4, 6, 7, 8, 9, 10, 11] zw7 zw0 zw7 zw5 zw14 rfl rfl
   refine CaseB.mk (fun e1 => ?_) (fun e1 => ?_)
   · have hn : mA p.pure ln = (ProgH.pure { p with groups := n1, h1 := z1 }) := by simp only [mA, f0 e0, t1 e1]; rfl
     refine ⟨⟨(i + 1, { p with groups := n1, h1 := z1 }), hiL, by rw [hst, hn], show p.threads.length ≤ i + 1 by omega⟩, ?_, by simp only; omega⟩
     exact aC [5, 3, 7, 8, 9, 10, 11] zw7 zw0 zw7 zw5 zw14 rfl rfl
   refine CaseB.mk (fun e2 => ?_) (fun e2 => ?_)
   · have hn : mA p.pure ln = (ProgH.pure { p with barriers := n2, h2 := z2 }) := by simp only [mA, f0 e0, f1 e1, t2 e2]; rfl
     refine ⟨⟨(i + 1, { p with barriers := n2, h2 := z2 }), hiL, by rw [hst, hn], show p.threads.length ≤ i + 1 by omega⟩, ?_, by simp only; omega⟩
     exact aC [5, 6, 2, 8, 9, 10, 11] zw7 zw0 zw7 zw5 zw14 rfl rfl
   refine CaseB.mk (fun e3 => ?_) (fun e3 => ?_)
   · have hn : mA p.pure ln = (ProgH.pure { p with rooms := n3, h3 := z3 }) := by simp only [mA, f0 e0, f1 e1, f2 e2, t3 e3]; rfl
     refine ⟨⟨(i + 1, { p with rooms := n3, h3 := z3 }), hiL, by rw [hst, hn], show p.threads.length ≤ i + 1 by omega⟩, ?_, by simp only; omega⟩
     exact aC [5, 6, 7, 1, 9, 10, 11] zw7 zw0 zw7 zw5 zw14 rfl rfl
   refine CaseB.mk (fun e4 => ?_) (fun e4 => ?_)
   · refine AllSl.mk fun b5 => ?_
     obtain ⟨x, hx⟩ : ∃ x : OpSH, x = ⟨n4, z4⟩ := ⟨_, rfl⟩
     refine bU dT 10 aA (xs := p.threads) (ys := [⟨n4, z4⟩]) rfl rfl rfl rfl rfl rfl rfl rfl rfl (by decide) ⟨rfl, rfl⟩ rfl z34 z42 z42 (fun z5 => ?_)
     rw [← hx]
     have hn : mA p.pure ln = (ProgH.pure { p with threads := p.threads ++ [x], h4 := z5 }) := by simp only [mA, f0 e0, f1 e1, f2 e2, f3 e3, t4 e4]; subst hx; simp [ProgH.pure]
     refine ⟨⟨(i + 1, { p with threads := p.threads ++ [x], h4 := z5 }), hiL, by rw [hst, hn], by simp; omega⟩, ?_, by simp only; omega⟩
     refine aO (.joinO [2, 11] (Gs := [[_], _]) z139 rfl (G := (p.threads ++ [x]).flatMap pX) (by subst hx; rw [List.flatMap_append]; exact (List.Perm.of_eq (by simp [pX])).trans List.perm_append_comm)) ?_
     exact aC [7, 8, 9, 10, 1, 0, 11] zw7 zw0 zw7 zw5 zw14 rfl rfl
   have hn : mA p.pure ln = p.pure := by simp only [mA, f0 e0, f1 e1, f2 e2, f3 e3, f4 e4]
   refine ⟨⟨(i + 1, p), hiL, by rw [hst, hn], show p.threads.length ≤ i + 1 by omega⟩, ?_, by simp only; omega⟩
   exact aC [5, 6, 7, 8, 9, 10, 11] zw7 zw0 zw7 zw5 zw14 rfl rfl
 have hie : i = Ls.length := by have := of_decide_eq_false g2; omega
 rotate_left
 have hie : i = Ls.length := by rw [hw0] at g; have := of_decide_eq_false g; omega
 rotate_left
 all_goals
   rw [hie, List.take_length, ← hM] at i2
   have sz : p.sems.length ≤ 3 ∧ p.groups.length ≤ 3 ∧ p.barriers.length ≤ 3 ∧ p.rooms.length ≤ 3 := by
     rw [← i2] at ok; exact ⟨ok.sems.1, ok.groups.1, ok.barriers.1, ok.rooms.1⟩
   refine xB (.joinO [0, 1, 2, 3, 4, 5] (Gs := [[_], [_], [_], [_], [_], _]) z115 rfl (G := aW p) (.of_eq (by simp [aW, oF, iJ]))) ?_
   refine aB _ fL0 rfl rfl rfl rfl ⟨rfl, rfl⟩ (fun A w hW => mD p w ⟨hW.get 0 rfl (.O_R fun _ h => h), trivial⟩ ⟨by omega, by omega, by omega, by omega⟩) ?_
   rintro v L ⟨b0, rfl, hb0, rfl⟩
   rw [i2] at hb0
   refine CaseB.mk (fun g3 => by rw [hb0.2 ok] at g3; cases g3) (fun _ => ?_)
   refine aB _ cl156 rfl rfl rfl rfl ⟨rfl, rfl⟩ (fun A w hW => (iP0 p w ⟨hW.get 0 rfl (.O_R fun _ h => h), trivial⟩ (by rw [i2]; exact ok))) ?_
   rintro v L ⟨rfl, rfl⟩
   rw [i2, hf]
   refine cO rfl rfl rfl ⟨rfl, rfl⟩ (.bool (t != t)) (fun w => bI w) (fun w => wK w) ?_
   refine CaseB.mk (fun g4 => by simp at g4) (fun _ => ?_)
   exact bD [0] ⟨p, rfl, i2, rfl⟩ z147 rfl ⟨rfl, trivial⟩ (fun _ => rfl)
end Go.Proofs.YtijmjecehppbfaaGreat
