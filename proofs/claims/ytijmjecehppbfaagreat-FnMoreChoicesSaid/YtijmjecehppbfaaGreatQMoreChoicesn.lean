/- FnMoreChoices: texts that its proof stands on, part 14. -/
import Derived.Test.YtijmjecehppbfaaGreatQMoreChoicesm
namespace Go.Proofs.YtijmjecehppbfaaGreat
set_option maxRecDepth 100000
set_option maxHeartbeats 100000000
open Go Go.Sx Go.RowKit
theorem iE0 (s : Str) {a i : Nat} (h1 : a ≤ i) (h2 : i < s.length) : (s.drop a).take (i + 1 - a) = (s.drop a).take (i - a) ++ [s[i]] := by
 have e : i + 1 - a = (i - a) + 1 := by omega
 rw [e, List.take_succ_eq_append_getElem z87]
 congr 2
 rw [List.getElem_drop]
 congr 1
 omega
theorem dE0 (a b : UInt8) : ((a.toNat : Int) = (b.toNat : Int)) ↔ a = b := by
 constructor
 · intro h; exact UInt8.toNat_inj.1 (by omega)
 · intro h; rw [h]
theorem gL0 (s : Str) (c : UInt8) (w : World) (hb : s.length ≤ 1000000) :
   Calls Tryz.prog 153 #[.string (bs s), .int .u8 (c.toNat : Int)] w (Ret w fun v L => ∃ y : Sl, v = y.val (gL c s).length ∧ L = [own y 9 xR 1 (gL c s)]) := by
 refine cB Tryz.func153 rfl aA w _ rfl _ rfl [] trivial trivial _ _ (by decide) ?_
 refine AllSl.mk fun y0 => ?_
 refine LoopW.mk ⟨{ q : Nat × Nat × Sl × List Str // (q.1 ≤ s.length → q.2.1 ≤ q.1 ∧ gL c s = q.2.2.2 ++ uP c ((s.drop q.2.1).take (q.1 - q.2.1)) (s.drop q.1)) ∧ (s.length < q.1 → q.1 = s.length + 1 ∧ q.2.2.2 = gL c s) ∧ q.2.1 ≤ s.length + 1 ∧ q.2.2.2.length ≤ q.1 },
   fun q => .mk [(0, .v (.string (bs s))), (1, .v (.int .u8 (c.toNat : Int))), (5, .v (q.1.2.2.1.val q.1.2.2.2.length)), (6, .v (.int .i64 (q.1.2.1 : Int))), (7, .v (.int .i64 (q.1.1 : Int)))] 0 0 [] [] [own q.1.2.2.1 9 xR 1 q.1.2.2.2],
   fun q => s.length + 1 - q.1.1, ⟨(0, 0, y0, []), fun _ => ⟨Nat.le_refl _, by simp [gL]⟩, fun h => z104, by simp, by simp⟩, ?_, ?_⟩
 · exact aC [0] zw2 zw0 zw2 zw5 zw4 rfl rfl
 rintro ⟨⟨i, a, y, out⟩, i1, i2, i3, i4⟩
 simp only at i1 i2 i3 i4 ⊢
 refine fJ aA rfl rfl rfl rfl rfl rfl ⟨rfl, rfl⟩ ?_
 apply CaseB.mk <;> intro g
 · have hi : i ≤ s.length := by have := of_decide_eq_true g; omega
   obtain ⟨ha, hc⟩ := i1 hi
   have hw := bD i (s.length + 1) (by omega) (by omega)
   refine fJ aA rfl rfl rfl rfl rfl rfl ⟨rfl, rfl⟩ ?_
   apply CaseB.mk <;> intro g
   · have hie : i = s.length := by have g' : (i : Int) = (s.length : Int) := z98; omega
     refine mK aA rfl rfl rfl ⟨rfl, rfl⟩ rfl rfl (a) (i) rfl rfl z43 z43 ?_
     refine AllSl.mk fun b3 => ?_
     refine bQ kR 1 aA (xs := out) (ys := [(s.drop a).take (i - a)]) rfl rfl rfl rfl rfl rfl rfl rfl rfl (by decide) ⟨rfl, rfl⟩ rfl z35 z43 z43 (fun z3 => ?_)
     refine ⟨⟨(i + 1, i + 1, z3, out ++ [(s.drop a).take (i - a)]), fun h => by have h : i + 1 ≤ s.length := h; omega, fun _ => ⟨show i + 1 = s.length + 1 by omega, ?_⟩, show i + 1 ≤ s.length + 1 by omega, by simp; omega⟩, ?_, by simp only; omega⟩
     · rw [hc, List.drop_eq_nil_of_le (show s.length ≤ i by omega)]; rfl
     · exact aC [0] zw1 zw0 zw1 zw5 zw3 rfl rfl
   have hil : i < s.length := by have g' : ¬ (i : Int) = (s.length : Int) := z98; omega
   have hd : s.drop i = s[i] :: s.drop (i + 1) := List.drop_eq_getElem_cons hil
   refine kB aA rfl rfl rfl rfl ⟨rfl, rfl⟩ (i) rfl z43 ?_
   refine CaseB.mk (fun g2 => ?_) (fun g2 => ?_)
   · have e : s[i] = c := (dE0 _ _).1 z93
     refine mK aA rfl rfl rfl ⟨rfl, rfl⟩ rfl rfl (a) (i) rfl rfl z43 z43 ?_
     refine AllSl.mk fun b3 => ?_
     refine bQ kR 1 aA (xs := out) (ys := [(s.drop a).take (i - a)]) rfl rfl rfl rfl rfl rfl rfl rfl rfl (by decide) ⟨rfl, rfl⟩ rfl z35 z43 z43 (fun z3 => ?_)
     refine ⟨⟨(i + 1, i + 1, z3, out ++ [(s.drop a).take (i - a)]), fun _ => ⟨show i + 1 ≤ i + 1 by omega, ?_⟩, fun h => by have h : s.length < i + 1 := h; omega, show i + 1 ≤ s.length + 1 by omega, by simp; omega⟩, ?_, by simp only; omega⟩
     · rw [hc, hd, uP, if_pos e]; simp
     · exact aC [0] zw1 zw0 zw1 zw5 zw3 rfl rfl
   have e : ¬ s[i] = c := fun h => by rw [h] at g2; simp at g2
   refine ⟨⟨(i + 1, a, y, out), fun _ => ⟨show a ≤ i + 1 by omega, ?_⟩, fun h => by have h : s.length < i + 1 := h; omega, i3, show out.length ≤ i + 1 by omega⟩, ?_, by simp only; omega⟩
   · rw [hc, hd, uP, if_neg e, iE0 s ha hil]
   · exact aC [0] zw1 zw0 zw1 zw5 zw3 rfl rfl
 have hi : s.length < i := by have := of_decide_eq_false g; omega
 obtain ⟨_, e⟩ := i2 hi
 rw [← e]
 exact bG [0] ⟨y, rfl, rfl⟩ z144 rfl ⟨rfl, trivial⟩ (fun _ => rfl)
theorem eT0 {a b : Nat} (h : a ≤ b) : 10 ^ a ≤ 10 ^ b := Nat.pow_le_pow_right (by decide) h
theorem uS {n : Int} {s : Str} {i : Nat} (h : i < s.length) : tV n (s.drop i) = if (s[i]).toNat < 48 ∨ 57 < (s[i]).toNat then none else tV (n * 10 + (((s[i]).toNat : Int) - 48)) (s.drop (i + 1)) := by
 rw [List.drop_eq_getElem_cons h, tV]
theorem lJ0 (s : Str) (w : World) (hb : s.length ≤ 1000000) :
   Calls Tryz.prog 185 #[.string (bs s)] w (Ret w fun v L => v = .tuple #[.int .i64 ((uR s).getD 0), .bool (uR s).isSome] ∧ L = []) := by
 generalize hM : uR s = M
 have hbad : xU s → M = none := fun h => by rw [← hM]; exact if_pos h
 refine bZ Tryz.func185 rfl aA w _ rfl _ rfl [] trivial trivial _ (by decide) ?_
 refine fJ aA rfl rfl rfl rfl rfl rfl ⟨rfl, rfl⟩ ?_
 apply CaseB.mk <;> intro g
 · have hpos : 0 < s.length := by have := of_decide_eq_true g; omega
   have hh : s.head? = some s[0] := by rw [List.head?_eq_getElem?, List.getElem?_eq_getElem hpos]
   refine kB aA rfl rfl rfl rfl ⟨rfl, rfl⟩ (0) rfl z43 ?_
   refine CaseB.mk (fun g2 => ?_) (fun g2 => ?_)
   refine mK aA rfl rfl rfl ⟨rfl, rfl⟩ rfl rfl (1) (s.length) rfl rfl z43 z43 ?_
   have hn : xT s = true := by rw [xT, hh]; exact decide_eq_true (congrArg some ((dE0 _ 45).1 z93))
   have ht : nQ s = (s.drop 1).take (s.length - 1) := by rw [nQ, if_pos hn, List.take_of_length_le z87]
   have htl : (nQ s).length ≤ 1000000 := by rw [ht]; simp; omega
   generalize (s.drop 1).take (s.length - 1) = t at ht ⊢
   generalize ((s[0].toNat : Int) == 45) = nb at g2 ⊢
   rw [← g2] at hn
   have hbad2 : t.length = 0 ∨ 17 < t.length ∨ (t.head? = some 48 ∧ (1 < t.length ∨ nb = true)) → M = none := fun h => hbad z88
   have hM2 : ¬ (t.length = 0 ∨ 17 < t.length ∨ (t.head? = some 48 ∧ (1 < t.length ∨ nb = true))) → M = (tV 0 t).map fun n => if nb = true then -n else n := fun h => by rw [← hM, uR, if_neg z88, ht, hn]
   rw [ht] at htl
   refine fJ aA rfl rfl rfl rfl rfl rfl ⟨rfl, rfl⟩ ?_
   refine CaseB.mk (fun g3 => ?_) (fun g3 => ?_)
   · obtain rfl := hbad2 (.inl z94)
     exact aH ⟨rfl, rfl⟩ (fun _ => rfl)
   refine fJ aA rfl rfl rfl rfl rfl rfl ⟨rfl, rfl⟩ ?_
   refine CaseB.mk (fun g4 => ?_) (fun g4 => ?_)
   · obtain rfl := hbad2 (.inr (.inl (by have := of_decide_eq_true g4; omega)))
     exact aH ⟨rfl, rfl⟩ (fun _ => rfl)
   have hp0 : 0 < t.length := by have h : ¬ (t.length : Int) = 0 := z94; omega
   have h17 : t.length ≤ 17 := by have := of_decide_eq_false g4; omega
   have hh2 : t.head? = some t[0] := by rw [List.head?_eq_getElem?, List.getElem?_eq_getElem hp0]
   refine kB aA rfl rfl rfl rfl ⟨rfl, rfl⟩ (0) rfl z43 ?_
   refine CaseB.mk (fun g5 => ?_) (fun g5 => ?_)
   · have e5 : t[0] = 48 := (dE0 _ 48).1 (by simpa using g5)
     obtain rfl := hbad2 (.inr (.inr ⟨by rw [hh2, e5], .inr g2⟩))
     refine fJ aA rfl rfl rfl rfl rfl rfl ⟨rfl, rfl⟩ ?_
     refine CaseB.mk (fun g6 => ?_) (fun g6 => ?_)
     · exact aH ⟨rfl, rfl⟩ (fun _ => rfl)
     refine CaseB.mk (fun g7 => ?_) (fun g7 => ?_)
     · exact aH ⟨rfl, rfl⟩ (fun _ => rfl)
     rw [g2] at g7; cases g7
   have hg : ¬ (t.length = 0 ∨ 17 < t.length ∨ (t.head? = some 48 ∧ (1 < t.length ∨ nb = true))) := by
     rintro (h | h | ⟨h, h'⟩)
     · omega
     · omega
     · rw [hh2] at h; rw [Option.some.inj h] at g5; simp at g5
   rotate_left
   have hn : xT s = false := by rw [xT, hh]; exact decide_eq_false (fun h => by rw [Option.some.inj h] at g2; simp at g2)
   have ht : nQ s = s := by rw [nQ, if_neg (by rw [hn]; decide)]
   have htl : (nQ s).length ≤ 1000000 := by rw [ht]; exact hb
   generalize ((s[0].toNat : Int) == 45) = nb at g2 ⊢
   rw [← g2] at hn
   obtain ⟨t, rfl⟩ : ∃ t, t = s := ⟨s, rfl⟩
   have hbad2 : t.length = 0 ∨ 17 < t.length ∨ (t.head? = some 48 ∧ (1 < t.length ∨ nb = true)) → M = none := fun h => hbad z88
   have hM2 : ¬ (t.length = 0 ∨ 17 < t.length ∨ (t.head? = some 48 ∧ (1 < t.length ∨ nb = true))) → M = (tV 0 t).map fun n => if nb = true then -n else n := fun h => by rw [← hM, uR, if_neg z88, ht, hn]
   rw [ht] at htl
   refine fJ aA rfl rfl rfl rfl rfl rfl ⟨rfl, rfl⟩ ?_
   refine CaseB.mk (fun g3 => ?_) (fun g3 => ?_)
   · obtain rfl := hbad2 (.inl z94)
     exact aH ⟨rfl, rfl⟩ (fun _ => rfl)
   refine fJ aA rfl rfl rfl rfl rfl rfl ⟨rfl, rfl⟩ ?_
   refine CaseB.mk (fun g4 => ?_) (fun g4 => ?_)
   · obtain rfl := hbad2 (.inr (.inl (by have := of_decide_eq_true g4; omega)))
     exact aH ⟨rfl, rfl⟩ (fun _ => rfl)
   have hp0 : 0 < t.length := by have h : ¬ (t.length : Int) = 0 := z94; omega
   have h17 : t.length ≤ 17 := by have := of_decide_eq_false g4; omega
   have hh2 : t.head? = some t[0] := by rw [List.head?_eq_getElem?, List.getElem?_eq_getElem hp0]
   refine kB aA rfl rfl rfl rfl ⟨rfl, rfl⟩ (0) rfl z43 ?_
   refine CaseB.mk (fun g5 => ?_) (fun g5 => ?_)
   refine fJ aA rfl rfl rfl rfl rfl rfl ⟨rfl, rfl⟩ ?_
   refine CaseB.mk (fun g6 => ?_) (fun g6 => ?_)
   · have e5 : t[0] = 48 := (dE0 _ 48).1 (by simpa using g5)
     obtain rfl := hbad2 (.inr (.inr ⟨by rw [hh2, e5], .inl (by have := of_decide_eq_true g6; omega)⟩))
     exact aH ⟨rfl, rfl⟩ (fun _ => rfl)
   refine CaseB.mk (fun g7 => ?_) (fun g7 => ?_)
   · rw [g2] at g7; cases g7
   have hg : ¬ (t.length = 0 ∨ 17 < t.length ∨ (t.head? = some 48 ∧ (1 < t.length ∨ nb = true))) := by
     rintro (h | h | ⟨h, h'⟩)
     · omega
     · omega
     · have := of_decide_eq_false g6
       rcases h' with h' | h'
       · omega
       · rw [g7] at h'; cases h'
   rotate_left
   have hg : ¬ (t.length = 0 ∨ 17 < t.length ∨ (t.head? = some 48 ∧ (1 < t.length ∨ nb = true))) := by
     rintro (h | h | ⟨h, h'⟩)
     · omega
     · omega
     · rw [hh2] at h; rw [Option.some.inj h] at g5; simp at g5
   rotate_left
   all_goals
     have hG := hM2 hg
     refine LoopW.mk ⟨{ q : Nat × Int // q.1 ≤ t.length ∧ tV 0 t = tV q.2 (t.drop q.1) ∧ 0 ≤ q.2 ∧ q.2 < ((10 ^ q.1 : Nat) : Int) },
       fun q => .mk [(0, .v (.string (bs t))), (4, .v (.bool nb)), (5, .v (.int .i64 q.1.2)), (6, .v (.int .i64 (q.1.1 : Int)))] 0 0 [] [] [],
       fun q => t.length - q.1.1, ⟨(0, 0), Nat.zero_le _, rfl, by decide, by decide⟩, ?_, ?_⟩
     · exact aC [] zw2 zw0 zw2 zw5 zw4 rfl rfl
     rintro ⟨⟨i, n⟩, i1, i2, i3, i4⟩
     simp only at i1 i2 i3 i4 ⊢
     have hno : tV 0 t = none → M = none := fun h => by rw [hG, h]; rfl
     refine fJ aA rfl rfl rfl rfl rfl rfl ⟨rfl, rfl⟩ ?_
     refine CaseB.mk (fun gi => ?_) (fun gi => ?_)
     · have hlt : i < t.length := by have := of_decide_eq_true gi; omega
       have hw := bD i _ hlt (by omega)
       refine kB aA rfl rfl rfl rfl ⟨rfl, rfl⟩ (i) rfl z43 ?_
       refine CaseB.mk (fun g8 => ?_) (fun g8 => ?_)
       · obtain rfl := hno (by rw [i2, uS hlt, if_pos (.inl (by have := of_decide_eq_true g8; omega))])
         exact aH ⟨rfl, rfl⟩ (fun _ => rfl)
       refine kB aA rfl rfl rfl rfl ⟨rfl, rfl⟩ (i) rfl z43 ?_
       refine CaseB.mk (fun g9 => ?_) (fun g9 => ?_)
       · obtain rfl := hno (by rw [i2, uS hlt, if_pos (.inr (by have := of_decide_eq_true g9; omega))])
         exact aH ⟨rfl, rfl⟩ (fun _ => rfl)
       have d0 : 48 ≤ (t[i].toNat : Int) := by have := of_decide_eq_false g8; omega
       have d9 : (t[i].toNat : Int) ≤ 57 := by have := of_decide_eq_false g9; omega
       have hp := eT0 (show i ≤ 16 by omega)
       have hp2 : 10 ^ (i + 1) = 10 ^ i * 10 := Nat.pow_succ ..
       have e16 : 10 ^ 16 = 10000000000000000 := rfl
       have hv : IntKind.i64.wrap (IntKind.i64.wrap (n * 10) + IntKind.i64.wrap (IntKind.u8.wrap ((t[i].toNat : Int) - 48))) = n * 10 + ((t[i].toNat : Int) - 48) := by
         have w1 : IntKind.i64.wrap (n * 10) = n * 10 := cY (by omega) (by omega)
         have w2 : IntKind.u8.wrap ((t[i].toNat : Int) - 48) = (t[i].toNat : Int) - 48 := by rw [IntKind.wrap_u8]; omega
         have w3 : IntKind.i64.wrap ((t[i].toNat : Int) - 48) = (t[i].toNat : Int) - 48 := cY (by omega) (by omega)
         rw [w1, w2, w3, cY (by omega) (by omega)]
       refine kB aA rfl rfl rfl rfl ⟨rfl, rfl⟩ (i) rfl z43 ?_
       refine ⟨⟨(i + 1, n * 10 + ((t[i].toNat : Int) - 48)), hlt, ?_, show (0 : Int) ≤ n * 10 + ((t[i].toNat : Int) - 48) by omega, show n * 10 + ((t[i].toNat : Int) - 48) < ((10 ^ (i + 1) : Nat) : Int) by omega⟩, ?_, by simp only; omega⟩
       · rw [i2, uS hlt, if_neg (by omega)]
       · refine aC [] ?_ ?_ ?_ ?_ ?_ rfl rfl
         · exact zw20
         · exact zw0
         · exact zw20
         · exact zw5
         · repeat (first | exact trivial | refine ⟨.inl ⟨_, rfl, (by first | rfl | ((first | exact congrArg (fun z => SV.v (Value.int .i64 z)) hw | exact congrArg (fun z => SV.v (Value.int .i64 z)) hv)))⟩, ?_⟩ | refine ⟨.inr z139, ?_⟩)
     have hge : t.length ≤ i := by have := of_decide_eq_false gi; omega
     rw [List.drop_eq_nil_of_le hge] at i2
     have hMn : M = some (if nb = true then -n else n) := by rw [hG, i2]; rfl
     refine CaseB.mk (fun gn => ?_) (fun gn => ?_)
     · rw [hMn, gn]
       have hp := eT0 (show i ≤ 17 by omega)
       have e17 : 10 ^ 17 = 100000000000000000 := rfl
       have hw : IntKind.i64.wrap (0 - n) = -n := by rw [IntKind.wrap_i64]; omega
       exact bG [] (v := .tuple #[.int .i64 (IntKind.i64.wrap (0 - n)), .bool true]) ⟨by rw [hw]; rfl, rfl⟩ trivial rfl trivial (fun _ => rfl)
     · rw [hMn, gn]
       exact aH ⟨rfl, rfl⟩ (fun _ => rfl)
 obtain rfl : s = [] := List.eq_nil_of_length_eq_zero z85
 obtain rfl := hbad (.inl rfl)
 refine fJ aA rfl rfl rfl rfl rfl rfl ⟨rfl, rfl⟩ ?_
 refine CaseB.mk (fun g3 => ?_) (fun g3 => by simp at g3)
 exact aH ⟨rfl, rfl⟩ (fun _ => rfl)
theorem qL (k : Int) (w : World) : Calls Tryz.prog 198 #[.int .i64 k] w (Ret w fun v L => v = .int .i64 (jA k) ∧ L = []) := by
 refine bZ Tryz.func198 rfl aA w _ rfl _ rfl [] trivial trivial _ (by decide) ?_
 repeat' (refine CaseB.mk (fun h => ?_) (fun h => ?_))
 all_goals
   simp only [beq_iff_eq, beq_eq_false_iff_ne] at *
   first
     | (exfalso; omega)
     | (refine aH ⟨?_, rfl⟩ (fun _ => rfl); simp [jA, *])
theorem lK0 (k : Int) (w : World) : Calls Tryz.prog 189 #[.int .i64 k] w (Ret w fun v L => v = .string (bs (fU k)) ∧ L = []) := by
 refine bZ Tryz.func189 rfl aA w _ rfl _ rfl [] trivial trivial _ (by decide) ?_
 refine AllSl.mk fun l => ?_
 refine CaseB.mk (fun h => ?_) (fun h => ?_)
 · have e : fU k = [] := if_pos (.inl (by have := of_decide_eq_true h; omega))
   rw [e]
   exact aH ⟨rfl, rfl⟩ (fun _ => rfl)
 refine CaseB.mk (fun h2 => ?_) (fun h2 => ?_)
 · have e : fU k = [] := if_pos (.inr (by have := of_decide_eq_true h2; omega))
   rw [e]
   exact aH ⟨rfl, rfl⟩ (fun _ => rfl)
 have h1 : 1 ≤ k := by have := of_decide_eq_false h; omega
 have h10 : k ≤ 10 := by have := of_decide_eq_false h2; omega
 obtain ⟨j, rfl⟩ : ∃ j : Nat, k = j := ⟨k.toNat, (Int.toNat_of_nonneg (by omega)).symm⟩
 have hj : j < wordsL.length := by show j < 11; omega
 have e : fU (j : Int) = wordsL[j] := by rw [fU, if_neg (by omega), Int.toNat_natCast, List.getD_eq_getElem?_getD, List.getElem?_eq_getElem hj]; rfl
 rw [e]
 refine aG kR (xs := wordsL) aA rfl rfl rfl rfl rfl ⟨rfl, rfl⟩ (bX 0 rfl) j rfl hj (fun ad => ?_)
 exact aH ⟨rfl, rfl⟩ (fun _ => rfl)
theorem dF0 {G : List Fct} (k : Nat) {old : Bool} {i : Sl} {e m : Nat} {cs : List Value} {s : Str} (hk : G[k]? = some (kC old i e 1 cs m)) (hm : m = s.length) (hc : cs = s.map fun b => .int .u8 (b.toNat : Int)) : ∀ w, (∀ f ∈ G, f.P w) → RdS w i 1 (s.map fun b => .int .u8 (b.toNat : Int)) s.length := by
 subst hm; subst hc; exact bX k hk
theorem iF0 (f n : Nat) (out : Str) (h : 9 < n) : sG (f + 1) n out = sG f (n / 10) (UInt8.ofNat (48 + n % 10) :: out) := if_pos h
theorem oC0 (d : Nat) (h : d < 10) : IntKind.u8.wrap (IntKind.i64.wrap (48 + (d : Int))) = ((UInt8.ofNat (48 + d)).toNat : Int) := by
 have e : (UInt8.ofNat (48 + d)).toNat = 48 + d := by rw [UInt8.toNat_ofNat']; omega
 rw [e, cY (by omega) (by omega), IntKind.wrap_u8]; omega
theorem lL0 (n : Nat) (w : World) (hn : n < 1000000000000000000) : Calls Tryz.prog 197 #[.int .i64 (n : Int)] w (Ret w fun v L => v = .string (bs (sG 19 n [])) ∧ L = []) := by
 refine bZ Tryz.func197 rfl aA w _ rfl _ rfl [] trivial trivial _ (by decide) ?_
 refine CaseB.mk (fun g => by have := of_decide_eq_true g; omega) (fun _ => ?_)
 refine CaseB.mk (fun g => by have := of_decide_eq_true g; omega) (fun _ => ?_)
 refine LoopW.mk ⟨{ q : Nat × Nat × Str // sG 19 n [] = sG q.1 q.2.1 q.2.2 ∧ q.2.1 < 10 ^ q.1 ∧ 1 ≤ q.1 ∧ q.2.2.length + q.1 ≤ 19 ∧ q.2.1 < 1000000000000000000 },
   fun q => .mk [(0, .v (.int .i64 (q.1.2.1 : Int))), (3, .v (.string (bs q.1.2.2)))] 0 0 [] [] [],
   fun q => q.1.1, ⟨(19, n, []), rfl, by show n < 10 ^ 19; omega, by show 1 ≤ 19; omega, by simp, hn⟩, ?_, ?_⟩
 · exact aC [] zw2 zw0 zw2 zw5 zw4 rfl rfl
 rintro ⟨⟨f, m, out⟩, i1, i2, i3, i4, i5⟩
 simp only at i1 i2 i3 i4 i5 ⊢
 apply CaseB.mk <;> intro g
 · have h9 : 9 < m := by have := of_decide_eq_true g; omega
   obtain ⟨f, rfl⟩ : ∃ f', f = f' + 1 := ⟨f - 1, by omega⟩
   have hp : 10 ^ (f + 1) = 10 ^ f * 10 := Nat.pow_succ ..
   have hf : 1 ≤ f := by
     rcases Nat.eq_zero_or_pos f with h | h
     · subst h; simp at i2; omega
     · exact h
   refine cM rfl rfl rfl ⟨rfl, rfl⟩ (.int .i64 ((m % 10 : Nat) : Int)) (fun w => dM w) (fun w => oT (by omega) (by rw [Int.tmod_eq_emod_of_nonneg (by omega)]; omega) w) ?_
   refine AllSl.mk fun b => ?_
   refine dD0 (s := [UInt8.ofNat (48 + m % 10)]) aA rfl rfl rfl rfl rfl ⟨rfl, rfl⟩ (dF0 0 rfl rfl (by rw [oC0 (m % 10) (by omega)]; rfl)) (Nat.zero_lt_one) ?_
   refine cM rfl rfl rfl ⟨rfl, rfl⟩ (.string (bs ([UInt8.ofNat (48 + m % 10)] ++ out))) (fun w => bI w) (fun w => dB z59 w) ?_
   refine cM rfl rfl rfl ⟨rfl, rfl⟩ (.int .i64 ((m / 10 : Nat) : Int)) (fun w => dM w) (fun w => wB (by omega) (by rw [Int.tdiv_eq_ediv_of_nonneg (by omega), cY (by omega) (by omega)]; omega) w) ?_
   refine ⟨⟨(f, m / 10, UInt8.ofNat (48 + m % 10) :: out), i1.trans (iF0 f m out h9), show m / 10 < 10 ^ f by omega, hf, by simp only [List.length_cons]; omega, show m / 10 < 1000000000000000000 by omega⟩, ?_, by simp only; omega⟩
   exact aC [] zw2 zw0 zw2 zw5 zw4 rfl rfl
 have h9 : m ≤ 9 := by have := of_decide_eq_false g; omega
 obtain ⟨f, rfl⟩ : ∃ f', f = f' + 1 := ⟨f - 1, by omega⟩
 refine AllSl.mk fun b => ?_
 refine dD0 (s := [UInt8.ofNat (48 + m)]) aA rfl rfl rfl rfl rfl ⟨rfl, rfl⟩ (dF0 0 rfl rfl (by rw [oC0 m (by omega)]; rfl)) (Nat.zero_lt_one) ?_
 refine cM rfl rfl rfl ⟨rfl, rfl⟩ (.string (bs ([UInt8.ofNat (48 + m)] ++ out))) (fun w => bI w) (fun w => dB z59 w) ?_
 have e : sG 19 n [] = [UInt8.ofNat (48 + m)] ++ out := by rw [i1, sG, if_neg (by omega)]; rfl
 rw [e]
 exact aH ⟨rfl, rfl⟩ (fun _ => rfl)
theorem dG0 (n : Int) (w : World) (h1 : -1000000000000000000 < n) (h2 : n < 1000000000000000000) : Calls Tryz.prog 197 #[.int .i64 n] w (Ret w fun v L => v = .string (bs (lT n)) ∧ L = []) := by
 by_cases hn : 0 ≤ n
 · obtain ⟨k, rfl⟩ : ∃ k : Nat, n = k := ⟨n.toNat, (Int.toNat_of_nonneg hn).symm⟩
   have e : lT (k : Int) = sG 19 k [] := by rw [lT, if_neg (by omega)]; rfl
   rw [e]
   exact lL0 k w (by omega)
 obtain ⟨k, rfl⟩ : ∃ k : Nat, n = -(k : Int) := ⟨(-n).toNat, by omega⟩
 have e : lT (-(k : Int)) = [45] ++ sG 19 k [] := by
   rw [lT, if_pos (by omega), show (-(k : Int)).natAbs = k by omega]; rfl
 rw [e]
 have hw : IntKind.i64.wrap (0 - -(k : Int)) = (k : Int) := by rw [cY] <;> omega
 refine bZ Tryz.func197 rfl aA w _ rfl _ rfl [] trivial trivial _ (by decide) ?_
 refine CaseB.mk (fun g => by have := of_decide_eq_true g; omega) (fun _ => ?_)
 refine CaseB.mk (fun g => ?_) (fun g => by have := of_decide_eq_false g; omega)
 refine aB _ yM rfl rfl rfl rfl ⟨rfl, rfl⟩ (fun A w hW => (by rw [hw]; exact lL0 k w (by omega))) ?_
 rintro v L ⟨rfl, rfl⟩
 have hl := tW 19 k []
 refine cM rfl rfl rfl ⟨rfl, rfl⟩ (.string (bs ([45] ++ (sG 19 k [])))) (fun w => bI w) (fun w => dB (by simp only [List.length_cons, List.length_nil] at hl ⊢; omega) w) ?_
 exact aH ⟨rfl, rfl⟩ (fun _ => rfl)
theorem zR (k : Int) : jA k = 0 ∨ jA k = 1 ∨ jA k = 2 := by
 unfold jA
 split
 · exact .inr (.inl rfl)
 · split
   · exact .inl rfl
   · exact .inr (.inr rfl)
theorem gM0 {ns : List Int} (h : ns.length = 1) : ∃ a, ns = [a] := by
 match ns, h with
 | [a], _ => exact ⟨a, rfl⟩
theorem mY0 {ns : List Int} (h : ns.length = 2) : ∃ a b, ns = [a, b] := by
 match ns, h with
 | [a, b], _ => exact ⟨a, b, rfl⟩
theorem uT {k : Int} {ns : List Int} (h : (jA k = 0 ∨ jA k = 1) → ns.length ≠ 1) (h2 : jA k = 2 → ns.length ≠ 2) : nD k ns = none := by
 unfold nD
 rcases zR k with e | e | e
 · rw [if_pos e]
   split
   · exact (h (.inl e) rfl).elim
   · rfl
 · rw [if_neg (by omega), if_pos e]
   split
   · exact (h (.inr e) rfl).elim
   · rfl
 · rw [if_neg (by omega), if_neg (by omega)]
   split
   · exact (h2 e rfl).elim
   · rfl
theorem pF0 (k : Int) (i : Sl) (ns : List Int) (w : World) (h : At w [slo i aJ 1 ns]) :
   Calls Tryz.prog 196 #[.int .i64 k, i.val ns.length] w (Ret w fun v L => v = .tuple #[.agg (cOp ((nD k ns).getD Op0)).toArray, .bool (nD k ns).isSome] ∧ L = []) := by
 refine cB Tryz.func196 rfl aA w _ rfl _ rfl _ h ⟨rfl, rfl, trivial⟩ _ _ (by decide) ?_
 refine aB _ vC rfl rfl rfl rfl ⟨rfl, rfl⟩ (fun A w hW => (qL k w)) ?_
 rintro v L ⟨rfl, rfl⟩
 apply CaseB.mk <;> intro g
 · have a0 : jA k = 0 := by simpa using g
   refine CaseB.mk (fun g2 => ?_) (fun g2 => ?_)
   · obtain ⟨a, rfl⟩ := gM0 (ns := ns) (by have g' : (ns.length : Int) = 1 := z93; omega)
     refine aG aE aA rfl rfl rfl rfl rfl ⟨rfl, rfl⟩ z35 0 rfl z43 (fun ad => ?_)
     have e : nD k [a] = some ⟨k, 0, a⟩ := by rw [nD, if_pos a0]
     rw [e]
     exact aH ⟨rfl, rfl⟩ (fun _ => rfl)
   have hl : ns.length ≠ 1 := fun h => by rw [h] at g2; simp at g2
   rw [uT (fun _ => hl) (fun e => by omega)]
   refine aB _ vC rfl rfl rfl rfl ⟨rfl, rfl⟩ (fun A w hW => (qL k w)) ?_
   rintro v L ⟨rfl, rfl⟩
   refine CaseB.mk (fun g3 => by rw [a0] at g3; simp at g3) (fun _ => ?_)
   refine aB _ vC rfl rfl rfl rfl ⟨rfl, rfl⟩ (fun A w hW => (qL k w)) ?_
   rintro v L ⟨rfl, rfl⟩
   refine CaseB.mk (fun g3 => by rw [a0] at g3; simp at g3) (fun _ => ?_)
   exact aH ⟨rfl, rfl⟩ (fun _ => rfl)
 have n0 : ¬ jA k = 0 := by simpa using g
 refine aB _ vC rfl rfl rfl rfl ⟨rfl, rfl⟩ (fun A w hW => (qL k w)) ?_
 rintro v L ⟨rfl, rfl⟩
 apply CaseB.mk <;> intro g
 · have a0 : jA k = 1 := by simpa using g
   refine CaseB.mk (fun g2 => ?_) (fun g2 => ?_)
   · obtain ⟨a, rfl⟩ := gM0 (ns := ns) (by have g' : (ns.length : Int) = 1 := z93; omega)
     refine aG aE aA rfl rfl rfl rfl rfl ⟨rfl, rfl⟩ z35 0 rfl z43 (fun ad => ?_)
     have e : nD k [a] = some ⟨k, a, 0⟩ := by rw [nD, if_neg n0, if_pos a0]
     rw [e]
     exact aH ⟨rfl, rfl⟩ (fun _ => rfl)
   have hl : ns.length ≠ 1 := fun h => by rw [h] at g2; simp at g2
   rw [uT (fun _ => hl) (fun e => by omega)]
   refine aB _ vC rfl rfl rfl rfl ⟨rfl, rfl⟩ (fun A w hW => (qL k w)) ?_
   rintro v L ⟨rfl, rfl⟩
   refine CaseB.mk (fun g3 => by rw [a0] at g3; simp at g3) (fun _ => ?_)
   exact aH ⟨rfl, rfl⟩ (fun _ => rfl)
 have n1 : ¬ jA k = 1 := by simpa using g
 have a2 : jA k = 2 := by have := zR k; omega
 refine aB _ vC rfl rfl rfl rfl ⟨rfl, rfl⟩ (fun A w hW => (qL k w)) ?_
 rintro v L ⟨rfl, rfl⟩
 refine CaseB.mk (fun g => ?_) (fun g => by rw [a2] at g; simp at g)
 refine CaseB.mk (fun g2 => ?_) (fun g2 => ?_)
 · obtain ⟨a, b, rfl⟩ := mY0 (ns := ns) (by have g' : (ns.length : Int) = 2 := z93; omega)
   refine aG aE aA rfl rfl rfl rfl rfl ⟨rfl, rfl⟩ z35 0 rfl z43 (fun ad => ?_)
   refine aG aE aA rfl rfl rfl rfl rfl ⟨rfl, rfl⟩ z35 1 rfl z43 (fun ad => ?_)
   have e : nD k [a, b] = some ⟨k, a, b⟩ := by rw [nD, if_neg n0, if_neg n1]
   rw [e]
   exact aH ⟨rfl, rfl⟩ (fun _ => rfl)
 have hl : ns.length ≠ 2 := fun h => by rw [h] at g2; simp at g2
 rw [uT (fun e => by omega) (fun _ => hl)]
 exact aH ⟨rfl, rfl⟩ (fun _ => rfl)
def Op.near (o : Op) : Prop := -1000000000000000000 < o.on ∧ o.on < 1000000000000000000 ∧ -1000000000000000000 < o.arg ∧ o.arg < 1000000000000000000
theorem bI0 (o : Op) (w : World) (hn : o.near) :
   Calls Tryz.prog 188 #[.agg (cOp o).toArray] w (Ret w fun v L => v = .string (bs (gB o)) ∧ L = []) := by
 obtain ⟨h1, h2, h3, h4⟩ := hn
 have lw := zQ o.kind
 have l1 := oM o.on
 have l2 := oM o.arg
 refine bZ Tryz.func188 rfl aA w _ rfl _ rfl [] trivial trivial _ (by decide) ?_
 refine aB _ jI0 rfl rfl rfl rfl ⟨rfl, rfl⟩ (fun A w hW => (lK0 o.kind w)) ?_
 rintro v L ⟨rfl, rfl⟩
 refine cM rfl rfl rfl ⟨rfl, rfl⟩ (.bool ((fU o.kind) == [])) (fun w => bI w) (fun w => wH w) ?_
 apply CaseB.mk <;> intro g
 · have e : gB o = [] := if_pos z98
   rw [e]
   exact aH ⟨rfl, rfl⟩ (fun _ => rfl)
 have e0 : fU o.kind ≠ [] := by simpa using g
 refine aB _ vC rfl rfl rfl rfl ⟨rfl, rfl⟩ (fun A w hW => (qL o.kind w)) ?_
 rintro v L ⟨rfl, rfl⟩
 apply CaseB.mk <;> intro g
 · have a0 : jA o.kind = 0 := by simpa using g
   refine cM rfl rfl rfl ⟨rfl, rfl⟩ (.string (bs ((fU o.kind) ++ [32]))) (fun w => bI w) (fun w => dB z78 w) ?_
   refine aB _ yM rfl rfl rfl rfl ⟨rfl, rfl⟩ (fun A w hW => (dG0 o.arg w h3 h4)) ?_
   rintro v L ⟨rfl, rfl⟩
   refine cM rfl rfl rfl ⟨rfl, rfl⟩ (.string (bs ((fU o.kind ++ [32]) ++ (lT o.arg)))) (fun w => bI w) (fun w => dB z59 w) ?_
   have e : gB o = (fU o.kind ++ [32]) ++ lT o.arg := by rw [gB, if_neg e0, if_pos a0]
   rw [e]
   exact aH ⟨rfl, rfl⟩ (fun _ => rfl)
 have n0 : ¬ jA o.kind = 0 := by simpa using g
 refine aB _ vC rfl rfl rfl rfl ⟨rfl, rfl⟩ (fun A w hW => (qL o.kind w)) ?_
 rintro v L ⟨rfl, rfl⟩
 apply CaseB.mk <;> intro g
 · have a1 : jA o.kind = 1 := by simpa using g
   refine cM rfl rfl rfl ⟨rfl, rfl⟩ (.string (bs ((fU o.kind) ++ [32]))) (fun w => bI w) (fun w => dB z78 w) ?_
   refine aB _ yM rfl rfl rfl rfl ⟨rfl, rfl⟩ (fun A w hW => (dG0 o.on w h1 h2)) ?_
   rintro v L ⟨rfl, rfl⟩
   refine cM rfl rfl rfl ⟨rfl, rfl⟩ (.string (bs ((fU o.kind ++ [32]) ++ (lT o.on)))) (fun w => bI w) (fun w => dB z59 w) ?_
   have e : gB o = (fU o.kind ++ [32]) ++ lT o.on := by rw [gB, if_neg e0, if_neg n0, if_pos a1]
   rw [e]
   exact aH ⟨rfl, rfl⟩ (fun _ => rfl)
 have n1 : ¬ jA o.kind = 1 := by simpa using g
 have e : gB o = (((fU o.kind ++ [32]) ++ lT o.on) ++ [32]) ++ lT o.arg := by rw [gB, if_neg e0, if_neg n0, if_neg n1]
 rw [e]
 refine aF aA z102 z102 z102 200 [((0, 1), .v (.int .i64 o.on)), ((0, 2), .v (.int .i64 o.arg))] [] [] z135 z145 trivial rfl ?_
 refine kT rfl rfl rfl ⟨rfl, rfl⟩ (.string (bs ((fU o.kind) ++ [32]))) (fun w => bI w) (fun w => dB z78 w) ?_
 refine bN _ yM rfl rfl rfl rfl ⟨rfl, rfl⟩ (fun A w hW => (dG0 o.on w h1 h2)) ?_
 rintro v L ⟨rfl, rfl⟩
 refine kT rfl rfl rfl ⟨rfl, rfl⟩ (.string (bs ((fU o.kind ++ [32]) ++ (lT o.on)))) (fun w => bI w) (fun w => dB z59 w) ?_
 refine kT rfl rfl rfl ⟨rfl, rfl⟩ (.string (bs (((fU o.kind ++ [32]) ++ lT o.on) ++ [32]))) (fun w => bI w) (fun w => dB z59 w) ?_
 refine bN _ yM rfl rfl rfl rfl ⟨rfl, rfl⟩ (fun A w hW => (dG0 o.arg w h3 h4)) ?_
 rintro v L ⟨rfl, rfl⟩
 refine kT rfl rfl rfl ⟨rfl, rfl⟩ (.string (bs ((((fU o.kind ++ [32]) ++ lT o.on) ++ [32]) ++ (lT o.arg)))) (fun w => bI w) (fun w => dB z59 w) ?_
 exact aH ⟨rfl, rfl⟩ (fun _ => rfl)
theorem zS : ∀ (s : Str) (n m : Int) (k : Nat), 0 ≤ n → n < ((10 ^ k : Nat) : Int) → tV n s = some m → 0 ≤ m ∧ m < ((10 ^ (k + s.length) : Nat) : Int)
 | [], n, m, k, h0, h1, h => by simp only [tV, Option.some.injEq] at h; subst h; exact ⟨h0, h1⟩
 | x :: r, n, m, k, h0, h1, h => by
   simp only [tV] at h
   split at h
   · cases h
   · have hp : 10 ^ (k + 1) = 10 ^ k * 10 := Nat.pow_succ ..
     have := zS r (n * 10 + ((x.toNat : Int) - 48)) m (k + 1) (by omega) (by omega) h
     rw [show k + (x :: r).length = k + 1 + r.length by simp only [List.length_cons]; omega]
     exact this
def xV (n : Int) : Prop := -1000000000000000000 < n ∧ n < 1000000000000000000
theorem iG0 {s : Str} {n : Int} (h : uR s = some n) : xV n := by
 unfold uR at h
 split at h
 · cases h
 · rename_i hb
   have hl : (nQ s).length ≤ 17 := Nat.le_of_not_lt fun h => hb (.inr (.inl h))
   cases e : tV 0 (nQ s) with
   | none => rw [e] at h; cases h
   | some m =>
     rw [e] at h
     have h2 := zS _ 0 m 0 (by omega) (by decide) e
     have hp := eT0 (show 0 + (nQ s).length ≤ 17 by omega)
     have e17 : 10 ^ 17 = 100000000000000000 := rfl
     simp only [Option.map_some, Option.some.injEq] at h
     subst h
     unfold xV
     split <;> omega
theorem eU0 {k : Int} {ns : List Int} {o : Op} (hn : ∀ x ∈ ns, xV x) (h : nD k ns = some o) : o.near := by
 have z : xV 0 := ⟨by decide, by decide⟩
 unfold nD at h
 split at h
 · split at h
   · rename_i a; cases h; have := hn a (by simp); exact ⟨z.1, z.2, this.1, this.2⟩
   · cases h
 · split at h
   · split at h
     · rename_i a; cases h; have := hn a (by simp); exact ⟨this.1, this.2, z.1, z.2⟩
     · cases h
   · split at h
     · rename_i a b; cases h; have h1 := hn a (by simp); have h2 := hn b (by simp); exact ⟨h1.1, h1.2, h2.1, h2.2⟩
     · cases h
theorem eV0 (t w : Str) (ns : List Int) (f k : Nat) : pI t w ns (f + 1) k = if fU k = w then match nD k ns with | some o => if gB o = t then some o else pI t w ns f (k + 1) | none => pI t w ns f (k + 1) else pI t w ns f (k + 1) := rfl
theorem dH0 {s : Str} {r : List Str} : gO (s :: r) = match uR s with | none => none | some n => match gO r with | none => none | some l => some (n :: l) := rfl
def lY (ns : List Int) (o : Option (List Int)) : Option (List Int) := match o with | none => none | some l => some (ns ++ l)
theorem vP {ns : List Int} {s : Str} {r : List Str} {n : Int} (h : uR s = some n) : lY ns (gO (s :: r)) = lY (ns ++ [n]) (gO r) := by
 rw [dH0, h]
 cases gO r with
 | none => rfl
 | some l => simp [lY]
theorem vQ {ns : List Int} {s : Str} {r : List Str} (h : uR s = none) : lY ns (gO (s :: r)) = none := by
 rw [dH0, h]; rfl
theorem drop_take {α : Type} {xs : List α} {i m : Nat} (h : i < xs.length) : (xs.drop i).take (m + 1) = xs[i] :: (xs.drop (i + 1)).take m := by
 rw [List.drop_eq_getElem_cons h, List.take_succ_cons]
theorem zT (t : Str) (w : World) (hb : t.length ≤ 1000) :
   Calls Tryz.prog 186 #[.string (bs t)] w (Ret w fun v L => v = .tuple #[.agg (cOp ((fC t).getD Op0)).toArray, .bool (fC t).isSome] ∧ L = []) := by
 have hcl := tU 32 t
 have hpt : ∀ x ∈ gL 32 t, x.length ≤ 1000 := fun x hx => Nat.le_trans (rA hx) hb
 have hno : gO (((gL 32 t).drop 1).take 3) = none → fC t = none := fun h => by rw [fC, h]
 have hyes : ∀ ns, gO (((gL 32 t).drop 1).take 3) = some ns → fC t = if ns.length + 1 = (gL 32 t).length then pI t ((gL 32 t).headD []) ns 10 1 else none := fun ns h => by rw [fC, h]
 generalize fC t = M at hno hyes ⊢
 refine bZ Tryz.func186 rfl aA w _ rfl _ rfl [] trivial trivial _ (by decide) ?_
 refine aB _ fM0 rfl rfl rfl rfl ⟨rfl, rfl⟩ (fun A w hW => (gL0 t 32 w (by omega))) ?_
 rintro v L ⟨y, rfl, rfl⟩
 generalize gL 32 t = ps at hcl hpt hno hyes ⊢
 refine AllSl.mk fun l0 => ?_
 refine LoopW.mk ⟨{ q : Nat × Sl × List Int // 1 ≤ q.1 ∧ q.1 ≤ 4 ∧ q.1 ≤ ps.length ∧ gO ((ps.drop 1).take 3) = lY q.2.2 (gO ((ps.drop q.1).take (4 - q.1))) ∧ q.2.2.length + 1 = q.1 ∧ ∀ x ∈ q.2.2, xV x },
   fun q => .mk [(0, .v (.string (bs t))), (2, .p 0 0), (4, .v (y.val ps.length)), (5, .v (q.1.2.1.val q.1.2.2.length)), (6, .v (.int .i64 (q.1.1 : Int)))] 1 0 [(0, 65, 3)] [] [own q.1.2.1 3 aJ 1 q.1.2.2, own y 9 xR 1 ps],
   fun q => 4 - q.1.1, ⟨(1, l0, []), Nat.le_refl _, by show 1 ≤ 4; omega, hcl.1, by simp only [lY, List.nil_append]; cases gO ((ps.drop 1).take (4 - 1)) <;> rfl, rfl, by simp⟩, ?_, ?_⟩
 · exact aC [0, 1] zw2 zw0 zw2 zw5 zw4 rfl rfl
 rintro ⟨⟨i, z, ns⟩, i1, i2, i3, i4, i5, i6⟩
 simp only at i1 i2 i3 i4 i5 i6 ⊢
 apply CaseB.mk <;> intro g
 refine CaseB.mk (fun g2 => ?_) (fun g2 => ?_)
 · have hlt : i < ps.length := by have := of_decide_eq_true g; omega
   have h4 : i < 4 := by have := of_decide_eq_true g2; omega
   have hw := bD i _ hlt (by omega)
   obtain ⟨m, hm⟩ : ∃ m, 4 - i = m + 1 := ⟨3 - i, by omega⟩
   have hd : (ps.drop i).take (4 - i) = ps[i] :: (ps.drop (i + 1)).take (4 - (i + 1)) := by rw [hm, drop_take hlt, show 4 - (i + 1) = m by omega]
   rw [hd] at i4
   refine aG kR aA rfl rfl rfl rfl rfl ⟨rfl, rfl⟩ (bX 1 rfl) i rfl z43 (fun ad => ?_)
   obtain ⟨pt, hpe⟩ : ∃ pt, pt = ps[i] := ⟨_, rfl⟩
   have hpl : pt.length ≤ 1000 := by rw [hpe]; exact hpt _ (List.getElem_mem hlt)
   rw [← hpe] at i4 ⊢
   refine aB _ nQ0 rfl rfl rfl rfl ⟨rfl, rfl⟩ (fun A w hW => (lJ0 pt w (by omega))) ?_
   rintro v L ⟨rfl, rfl⟩
   cases hn : uR pt with
   | none =>
     refine CaseB.mk (fun g3 => ?_) (fun g3 => by simp at g3)
     obtain rfl := hno (i4.trans (vQ hn))
     exact aH ⟨rfl, rfl⟩ (fun _ => rfl)
   | some n =>
     refine CaseB.mk (fun g3 => by simp at g3) (fun g3 => ?_)
     refine AllSl.mk fun b3 => ?_
     refine bQ aE 1 aA (xs := ns) (ys := [n]) rfl rfl rfl rfl rfl rfl rfl rfl rfl (by decide) ⟨rfl, rfl⟩ rfl z35 z43 z43 (fun z3 => ?_)
     refine ⟨⟨(i + 1, z3, ns ++ [n]), show 1 ≤ i + 1 by omega, h4, hlt, i4.trans (vP hn), by simp; omega, fun x hx => ?_⟩, ?_, by simp only; omega⟩
     · rcases List.mem_append.1 hx with hx | hx
       · exact i6 x hx
       · simp only [List.mem_singleton] at hx; subst hx; exact iG0 hn
     · exact aC [0, 2] zw1 zw0 zw1 zw5 zw3 rfl rfl
 have hfin : gO ((ps.drop 1).take 3) = some ns := by
   rw [i4, show 4 - i = 0 by have := of_decide_eq_false g2; omega, List.take_zero]
   simp [gO, lY]
 rotate_left
 have hfin : gO ((ps.drop 1).take 3) = some ns := by
   rw [i4, List.drop_eq_nil_of_le z85, List.take_nil]
   simp [gO, lY]
 rotate_left
 all_goals
   have hM := hyes ns hfin
   clear hno hyes hfin i4
   refine LoopW.mk ⟨{ q : Nat // 1 ≤ q ∧ q ≤ 11 ∧ (ns.length + 1 = ps.length → M = pI t (ps.headD []) ns (11 - q) q) },
     fun q => .mk [(0, .v (.string (bs t))), (2, .p 0 0), (4, .v (y.val ps.length)), (5, .v (z.val ns.length)), (9, .v (.int .i64 (q.1 : Int)))] 1 0 [(0, 65, 3)] [] [own z 3 aJ 1 ns, own y 9 xR 1 ps],
     fun q => 11 - q.1, ⟨1, Nat.le_refl _, by decide, fun h => by rw [hM, if_pos h]⟩, ?_, ?_⟩
   · exact aC [0, 1] zw2 zw0 zw2 zw5 zw4 rfl rfl
   rintro ⟨k, k1, k2, k3⟩
   simp only at k1 k2 k3 ⊢
   have hw1 : IntKind.i64.wrap ((ps.length : Int) - 1) = (ps.length : Int) - 1 := cY (by omega) (by omega)
   refine CaseB.mk (fun h => ?_) (fun h => ?_)
   · have hk : k ≤ 10 := by have := of_decide_eq_true h; omega
     have hw := bD k 11 (by omega) (by omega)
     refine CaseB.mk (fun h2 => ?_) (fun h2 => ?_)
     · have he : ns.length + 1 = ps.length := by rw [hw1] at h2; have h2' : (ns.length : Int) = (ps.length : Int) - 1 := (by simpa using h2); omega
       have hp0 : 0 < ps.length := by omega
       have hhd : ps.headD [] = ps[0] := by
         cases ps with
         | nil => simp at hp0
         | cons a r => rfl
       have hst := k3 he
       rw [show 11 - k = (11 - (k + 1)) + 1 by omega, eV0, hhd] at hst
       rw [hhd] at k3
       obtain ⟨wd, hwd⟩ : ∃ wd, wd = ps[0] := ⟨_, rfl⟩
       rw [← hwd] at hst k3
       refine aF aA z102 z102 z102 200 [] [1] [_] trivial trivial ⟨rfl, trivial⟩ rfl ?_
       refine bO (ti := aU tab) kR aA rfl rfl rfl rfl rfl ⟨rfl, rfl⟩ z35 0 rfl z43 (fun ad => ?_)
       rw [← hwd]
       refine bN _ jI0 rfl rfl rfl rfl ⟨rfl, rfl⟩ (fun A w hW => (lK0 (k : Int) w)) ?_
       rintro v L ⟨rfl, rfl⟩
       refine kT rfl rfl rfl ⟨rfl, rfl⟩ (.bool ((fU (k : Int)) != wd)) (fun w => bI w) (fun w => wI w) ?_
       have hgo : ∀ hst2 : M = pI t wd ns (11 - (k + 1)) (k + 1), 1 ≤ k + 1 ∧ k + 1 ≤ 11 ∧ (ns.length + 1 = ps.length → M = pI t (ps.headD []) ns (11 - (k + 1)) (k + 1)) := fun e => ⟨by omega, by omega, fun _ => by rw [hhd, ← hwd]; exact e⟩
       refine CaseB.mk (fun h3 => ?_) (fun h3 => ?_)
       · have e : ¬ fU (k : Int) = wd := by simpa using h3
         rw [if_neg e] at hst
         refine ⟨⟨k + 1, hgo hst⟩, ?_, by simp only; omega⟩
         exact aC [0, 1] zw1 zw0 zw1 zw5 zw3 rfl rfl
       have e : fU (k : Int) = wd := by simpa using h3
       rw [if_pos e] at hst
       refine aB _ cl196 rfl rfl rfl rfl ⟨rfl, rfl⟩ (fun A w hW => (pF0 (k : Int) z ns w ⟨hW.rdOwn 0 rfl, trivial⟩)) ?_
       rintro v L ⟨rfl, rfl⟩
       cases hm : nD (k : Int) ns with
       | none =>
         rw [hm] at hst
         refine CaseB.mk (fun h4 => by simp at h4) (fun h4 => ?_)
         refine ⟨⟨k + 1, hgo hst⟩, ?_, by simp only; omega⟩
         exact aC [0, 1] zw1 zw0 zw1 zw5 zw3 rfl rfl
       | some o =>
         rw [hm] at hst
         simp only at hst
         refine CaseB.mk (fun h4 => ?_) (fun h4 => by simp at h4)
         refine aB _ jH0 rfl rfl rfl rfl ⟨rfl, rfl⟩ (fun A w hW => (bI0 o w (eU0 i6 hm))) ?_
         rintro v L ⟨rfl, rfl⟩
         refine cM rfl rfl rfl ⟨rfl, rfl⟩ (.bool ((gB o) == t)) (fun w => bI w) (fun w => wH w) ?_
         refine CaseB.mk (fun h5 => ?_) (fun h5 => ?_)
         · have e5 : gB o = t := by simpa using h5
           rw [if_pos e5] at hst
           rw [hst]
           exact aH ⟨rfl, rfl⟩ (fun _ => rfl)
         have e5 : ¬ gB o = t := by simpa using h5
         rw [if_neg e5] at hst
         refine ⟨⟨k + 1, hgo hst⟩, ?_, by simp only; omega⟩
         exact aC [0, 1] zw1 zw0 zw1 zw5 zw3 rfl rfl
     have hn : ¬ ns.length + 1 = ps.length := fun e => by rw [hw1] at h2; have h2' : ¬ (ns.length : Int) = (ps.length : Int) - 1 := (by simpa using h2); omega
     rw [if_neg hn] at hM
     rw [hM]
     exact aH ⟨rfl, rfl⟩ (fun _ => rfl)
   have hk : k = 11 := by have := of_decide_eq_false h; omega
   subst hk
   have hMn : M = none := by
     by_cases he : ns.length + 1 = ps.length
     · exact k3 he
     · rw [hM, if_neg he]
   rw [hMn]
   exact aH ⟨rfl, rfl⟩ (fun _ => rfl)
theorem eW0 {out : Str} {l : List Int} {k : Nat} (h : k < l.length) : jI out (l.drop k) = jI ((out ++ [32]) ++ lT l[k]) (l.drop (k + 1)) := by
 rw [List.drop_eq_getElem_cons h, jI]
theorem vR : ∀ (l : List Int) (out : Str), (jI out l).length ≤ out.length + 21 * l.length
 | [], out => by simp [jI]
 | x :: r, out => by
   have h := vR r ((out ++ [32]) ++ lT x)
   have h2 := oM x
   simp only [jI, List.length_append, List.length_cons, List.length_nil] at h ⊢
   omega
theorem rB (wd : Str) (l : List Int) : (fF wd l).length ≤ wd.length + 21 * l.length + 1 := by
 have h := vR l wd
 unfold fF
 split
 · simp
 · simp only [List.length_append, List.length_cons, List.length_nil]; omega
theorem bJ0 (wd : Str) (i : Sl) (l : List Int) (w : World) (h : At w [slo i aJ 1 l]) (hw : wd.length ≤ 1000) (hl : l.length ≤ 1000) (hn : ∀ x ∈ l, xV x) :
   Calls Tryz.prog 187 #[.string (bs wd), i.val l.length] w (Ret w fun v L => v = .string (bs (fF wd l)) ∧ L = []) := by
 refine cB Tryz.func187 rfl aA w _ rfl _ rfl _ h ⟨rfl, rfl, trivial⟩ _ _ (by decide) ?_
 apply CaseB.mk <;> intro g
 · have e : l = [] := List.eq_nil_of_length_eq_zero (by have g' : (l.length : Int) = 0 := z98; omega)
   rw [show fF wd l = [] from if_pos e]
   exact aH ⟨rfl, rfl⟩ (fun _ => rfl)
 have e : ¬ l = [] := fun e => by rw [e] at g; simp at g
 rw [show fF wd l = jI wd l ++ [10] from if_neg e]
 refine LoopW.mk ⟨{ q : Nat × Str // q.1 ≤ l.length ∧ jI wd l = jI q.2 (l.drop q.1) ∧ q.2.length ≤ 1000 + 21 * q.1 },
   fun q => .mk [(1, .v (i.val l.length)), (5, .v (.string (bs q.1.2))), (6, .v (.int .i64 (q.1.1 : Int)))] 0 0 [] [] [slo i aJ 1 l],
   fun q => l.length - q.1.1, ⟨(0, wd), Nat.zero_le _, rfl, by simpa using hw⟩, ?_, ?_⟩
 · exact aC [0] zw2 zw0 zw2 zw5 zw4 rfl rfl
 rintro ⟨⟨k, out⟩, i1, i2, i3⟩
 simp only at i1 i2 i3 ⊢
 apply CaseB.mk <;> intro g
 · have hlt : k < l.length := by have := of_decide_eq_true g; omega
   have hw2 := bD k _ hlt (by omega)
   have hd := oM l[k]
   have hnk := hn _ (List.getElem_mem hlt)
   refine cM rfl rfl rfl ⟨rfl, rfl⟩ (.string (bs (out ++ [32]))) (fun w => bI w) (fun w => dB z59 w) ?_
   refine aG aE aA rfl rfl rfl rfl rfl ⟨rfl, rfl⟩ z35 k rfl z43 (fun ad => ?_)
   refine aB _ yM rfl rfl rfl rfl ⟨rfl, rfl⟩ (fun A w hW => (dG0 _ w hnk.1 hnk.2)) ?_
   rintro v L ⟨rfl, rfl⟩
   refine cM rfl rfl rfl ⟨rfl, rfl⟩ (.string (bs ((out ++ [32]) ++ (lT l[k])))) (fun w => bI w) (fun w => dB z59 w) ?_
   refine ⟨⟨(k + 1, (out ++ [32]) ++ lT l[k]), hlt, i2.trans (eW0 hlt), by simp only [List.length_append, List.length_cons, List.length_nil]; omega⟩, ?_, by simp only; omega⟩
   exact aC [0] zw8 zw0 zw8 zw5 zw21 rfl rfl
 have hge : l.length ≤ k := by have := of_decide_eq_false g; omega
 rw [List.drop_eq_nil_of_le hge, jI] at i2
 refine cM rfl rfl rfl ⟨rfl, rfl⟩ (.string (bs (out ++ [10]))) (fun w => bI w) (fun w => dB z59 w) ?_
 rw [i2]
 exact aH ⟨rfl, rfl⟩ (fun _ => rfl)
theorem bK0 (line wd : Str) (w : World) (hb : line.length ≤ 1000) :
   Calls Tryz.prog 154 #[.string (bs line), .string (bs wd)] w (Ret w fun v L => ∃ (z : Sl) (ns : List Int) (b : Bool), v = .tuple #[z.val ns.length, .bool b] ∧ (b = false → tY line wd = none) ∧ (b = true → tY line wd = some ns) ∧ L = [own z 3 aJ 1 ns]) := by
 have hcl := tU 32 line
 have hpt : ∀ x ∈ gL 32 line, x.length ≤ 1000 := fun x hx => Nat.le_trans (rA hx) hb
 have h0 : ¬ ((gL 32 line).headD [] = wd ∧ 2 ≤ (gL 32 line).length) → tY line wd = none := fun h => if_neg h
 have h1 : ((gL 32 line).headD [] = wd ∧ 2 ≤ (gL 32 line).length) → tY line wd = match gO (((gL 32 line).drop 1).take 5) with | none => none | some ns => if ns.length + 1 = (gL 32 line).length then some ns else none := fun h => if_pos h
 generalize tY line wd = M at h0 h1 ⊢
 refine cB Tryz.func154 rfl aA w _ rfl _ rfl [] trivial trivial _ _ (by decide) ?_
 refine aB _ fM0 rfl rfl rfl rfl ⟨rfl, rfl⟩ (fun A w hW => (gL0 line 32 w (by omega))) ?_
 rintro v L ⟨y, rfl, rfl⟩
 generalize gL 32 line = ps at hcl hpt h0 h1 ⊢
 refine AllSl.mk fun l0 => ?_
 have hp0 : 0 < ps.length := by omega
 have hhd : ps.headD [] = ps[0] := by
   cases ps with
   | nil => simp at hp0
   | cons a r => rfl
 rw [hhd] at h0 h1
 refine aG kR aA rfl rfl rfl rfl rfl ⟨rfl, rfl⟩ (bX 1 rfl) 0 rfl z43 (fun ad => ?_)
 refine cM rfl rfl rfl ⟨rfl, rfl⟩ (.bool ((ps[0]) != wd)) (fun w => bI w) (fun w => wI w) ?_
 apply CaseB.mk <;> intro g
 · have e := h0 (fun h => by rw [h.1] at g; simp at g)
   exact bG [0] ⟨l0, [], false, rfl, fun _ => e, fun h => z104, rfl⟩ z144 rfl ⟨rfl, trivial⟩ (fun _ => rfl)
 have e0 : ps[0] = wd := by simpa using g
 refine CaseB.mk (fun g2 => ?_) (fun g2 => ?_)
 · have e := h0 (fun h => by have := of_decide_eq_true g2; omega)
   exact bG [0] ⟨l0, [], false, rfl, fun _ => e, fun h => z104, rfl⟩ z144 rfl ⟨rfl, trivial⟩ (fun _ => rfl)
 have hM := h1 ⟨e0, by have := of_decide_eq_false g2; omega⟩
 clear h0 h1
 refine LoopW.mk ⟨{ q : Nat × Sl × List Int // 1 ≤ q.1 ∧ q.1 ≤ 6 ∧ q.1 ≤ ps.length ∧ gO ((ps.drop 1).take 5) = lY q.2.2 (gO ((ps.drop q.1).take (6 - q.1))) ∧ q.2.2.length + 1 = q.1 },
   fun q => .mk [(6, .v (y.val ps.length)), (7, .v (q.1.2.1.val q.1.2.2.length)), (8, .v (.int .i64 (q.1.1 : Int)))] 0 0 [] [] [own q.1.2.1 3 aJ 1 q.1.2.2, own y 9 xR 1 ps],
   fun q => 6 - q.1.1, ⟨(1, l0, []), Nat.le_refl _, by show 1 ≤ 6; omega, hcl.1, by simp only [lY, List.nil_append]; cases gO ((ps.drop 1).take (6 - 1)) <;> rfl, rfl⟩, ?_, ?_⟩
 · exact aC [0, 1] zw2 zw0 zw2 zw5 zw4 rfl rfl
 rintro ⟨⟨i, z, ns⟩, i1, i2, i3, i4, i5⟩
 simp only at i1 i2 i3 i4 i5 ⊢
 apply CaseB.mk <;> intro g
 refine CaseB.mk (fun g2 => ?_) (fun g2 => ?_)
 · have hlt : i < ps.length := by have := of_decide_eq_true g; omega
   have h6 : i < 6 := by have := of_decide_eq_true g2; omega
   have hw := bD i _ hlt (by omega)
   obtain ⟨m, hm⟩ : ∃ m, 6 - i = m + 1 := ⟨5 - i, by omega⟩
   have hd : (ps.drop i).take (6 - i) = ps[i] :: (ps.drop (i + 1)).take (6 - (i + 1)) := by rw [hm, drop_take hlt, show 6 - (i + 1) = m by omega]
   rw [hd] at i4
   refine aG kR aA rfl rfl rfl rfl rfl ⟨rfl, rfl⟩ (bX 1 rfl) i rfl z43 (fun ad => ?_)
   obtain ⟨pt, hpe⟩ : ∃ pt, pt = ps[i] := ⟨_, rfl⟩
   have hpl : pt.length ≤ 1000 := by rw [hpe]; exact hpt _ (List.getElem_mem hlt)
   rw [← hpe] at i4 ⊢
   refine aB _ nQ0 rfl rfl rfl rfl ⟨rfl, rfl⟩ (fun A w hW => (lJ0 pt w (by omega))) ?_
   rintro v L ⟨rfl, rfl⟩
   cases hn : uR pt with
   | none =>
     refine CaseB.mk (fun g3 => ?_) (fun g3 => by simp at g3)
     refine AllSl.mk fun l2 => ?_
     have e : M = none := by rw [hM, i4.trans (vQ hn)]
     exact bG [0] ⟨l2, [], false, rfl, fun _ => e, fun h => z104, rfl⟩ z144 rfl ⟨rfl, trivial⟩ (fun _ => rfl)
   | some n =>
     refine CaseB.mk (fun g3 => by simp at g3) (fun g3 => ?_)
     refine AllSl.mk fun b3 => ?_
     refine bQ aE 1 aA (xs := ns) (ys := [n]) rfl rfl rfl rfl rfl rfl rfl rfl rfl (by decide) ⟨rfl, rfl⟩ rfl z35 z43 z43 (fun z3 => ?_)
     refine ⟨⟨(i + 1, z3, ns ++ [n]), show 1 ≤ i + 1 by omega, h6, hlt, i4.trans (vP hn), by simp; omega⟩, ?_, by simp only; omega⟩
     exact aC [0, 2] zw1 zw0 zw1 zw5 zw3 rfl rfl
 have hfin : gO ((ps.drop 1).take 5) = some ns := by
   rw [i4, show 6 - i = 0 by have := of_decide_eq_false g2; omega, List.take_zero]
   simp [gO, lY]
 rotate_left
 have hfin : gO ((ps.drop 1).take 5) = some ns := by
   rw [i4, List.drop_eq_nil_of_le z85, List.take_nil]
   simp [gO, lY]
 rotate_left
 all_goals
   rw [hfin] at hM
   simp only at hM
   have hw1 : IntKind.i64.wrap ((ps.length : Int) - 1) = (ps.length : Int) - 1 := cY (by omega) (by omega)
   by_cases he : ns.length + 1 = ps.length
   · rw [if_pos he] at hM
     exact bG [0] ⟨z, ns, _, rfl, fun h => by rw [hw1] at h; have h' : ¬ (ns.length : Int) = (ps.length : Int) - 1 := z95; omega, fun _ => hM, rfl⟩ z144 rfl ⟨rfl, trivial⟩ (fun _ => rfl)
   · rw [if_neg he] at hM
     exact bG [0] ⟨z, ns, _, rfl, fun _ => hM, fun h => by rw [hw1] at h; have h' : (ns.length : Int) = (ps.length : Int) - 1 := z95; omega, rfl⟩ z144 rfl ⟨rfl, trivial⟩ (fun _ => rfl)
def xW (i : Nat) (s : Str) : Option Op := if i = 0 then fC s else if s.head? = some 32 then fC (s.drop 1) else none
def rE (i : Nat) : List Str → Option (List Op)
 | [] => some []
 | s :: r => match xW i s with
   | none => none
   | some o => match iD0 r with
     | none => none
     | some l => some (o :: l)
theorem pG0 : ∀ l : List Str, opsM l = rE 0 l
 | [] => rfl
 | _ :: _ => rfl
theorem pH0 {i : Nat} (h : 1 ≤ i) : ∀ l : List Str, iD0 l = rE i l
 | [] => rfl
 | s :: r => by simp only [iD0, rE, xW, if_neg (show ¬ i = 0 by omega)]; rfl
def nR (ns : List Op) (o : Option (List Op)) : Option (List Op) := match o with | none => none | some l => some (ns ++ l)
theorem tZ {ns : List Op} {s : Str} {r : List Str} {o : Op} {i : Nat} (h : xW i s = some o) : nR ns (rE i (s :: r)) = nR (ns ++ [o]) (rE (i + 1) r) := by
 rw [← pH0 (by omega) r, rE, h]
 cases iD0 r with
 | none => rfl
 | some l => simp [nR]
theorem bL0 {ns : List Op} {s : Str} {r : List Str} {i : Nat} (h : xW i s = none) : nR ns (rE i (s :: r)) = none := by
 rw [rE, h]; rfl
theorem iH0 (line : Str) (w : World) (hb : line.length ≤ 1000) :
   Calls Tryz.prog 155 #[.string (bs line)] w (Ret w fun v L => ∃ (z : Sl) (ns : List Op) (b : Bool), v = .tuple #[z.val ns.length, .bool b] ∧ (b = false → mI line = none) ∧ (b = true → mI line = some ns) ∧ L = [own z 65 cOp 3 ns]) := by
 have hcl := tU 44 (line.drop 7)
 have hdl : (line.drop 7).length ≤ 1000 := by simp; omega
 have hpt : ∀ x ∈ gL 44 (line.drop 7), x.length ≤ 1000 := fun x hx => Nat.le_trans (rA hx) hdl
 have h0 : line = [116, 104, 114, 101, 97, 100] → mI line = some [] := fun h => if_pos h
 have h1 : line ≠ [116, 104, 114, 101, 97, 100] → (line.length < 7 ∨ line.take 7 ≠ [116, 104, 114, 101, 97, 100, 32]) → mI line = none := fun h h2 => by rw [mI, if_neg h, if_pos h2]
 have h2 : line ≠ [116, 104, 114, 101, 97, 100] → ¬ (line.length < 7 ∨ line.take 7 ≠ [116, 104, 114, 101, 97, 100, 32]) → mI line = match rE 0 ((gL 44 (line.drop 7)).take 9) with | none => none | some l => if (gL 44 (line.drop 7)).length ≤ 8 then some l else none := fun h h2 => by rw [mI, if_neg h, if_neg h2, pG0]; rfl
 generalize mI line = M at h0 h1 h2 ⊢
 refine bZ Tryz.func155 rfl aA w _ rfl _ rfl [] trivial trivial _ (by decide) ?_
 refine AllSl.mk fun l0 => ?_
 refine cM rfl rfl rfl ⟨rfl, rfl⟩ (.bool (line == [116, 104, 114, 101, 97, 100])) (fun w => bI w) (fun w => wH w) ?_
 apply CaseB.mk <;> intro g
 · have e := h0 z98
   exact bG [0] ⟨l0, [], true, rfl, fun h => z104, fun _ => e, rfl⟩ z144 rfl ⟨rfl, trivial⟩ (fun _ => rfl)
 have n0 : line ≠ [116, 104, 114, 101, 97, 100] := by simpa using g
 refine fJ aA rfl rfl rfl rfl rfl rfl ⟨rfl, rfl⟩ ?_
 apply CaseB.mk <;> intro g
 · have e := h1 n0 (.inl (by have := of_decide_eq_true g; omega))
   exact bG [0] ⟨l0, [], false, rfl, fun _ => e, fun h => z104, rfl⟩ z144 rfl ⟨rfl, trivial⟩ (fun _ => rfl)
 have l7 : 7 ≤ line.length := by have := of_decide_eq_false g; omega
 refine mK aA rfl rfl rfl ⟨rfl, rfl⟩ rfl rfl (0) (7) rfl rfl z43 z43 ?_
 have ht7 : (line.drop 0).take (7 - 0) = line.take 7 := rfl
 rw [ht7]
 refine cM rfl rfl rfl ⟨rfl, rfl⟩ (.bool ((line.take 7) != [116, 104, 114, 101, 97, 100, 32])) (fun w => bI w) (fun w => wI w) ?_
 refine CaseB.mk (fun g2 => ?_) (fun g2 => ?_)
 · have e := h1 n0 (.inr z93)
   exact bG [0] ⟨l0, [], false, rfl, fun _ => e, fun h => z104, rfl⟩ z144 rfl ⟨rfl, trivial⟩ (fun _ => rfl)
 have hM := h2 n0 (fun h => by
   rcases h with h | h
   · omega
   · exact h z93)
 clear h0 h1 h2
 refine mK aA rfl rfl rfl ⟨rfl, rfl⟩ rfl rfl (7) (line.length) rfl rfl z43 z43 ?_
 have hd7 : (line.drop 7).take (line.length - 7) = line.drop 7 := List.take_of_length_le z87
 rw [hd7]
 refine aB _ fM0 rfl rfl rfl rfl ⟨rfl, rfl⟩ (fun A w hW => (gL0 (line.drop 7) 44 w (by omega))) ?_
 rintro v L ⟨y, rfl, rfl⟩
 generalize gL 44 (line.drop 7) = ps at hcl hpt hM ⊢
 refine LoopW.mk ⟨{ q : Nat × Sl × List Op // q.1 ≤ 9 ∧ q.1 ≤ ps.length ∧ rE 0 (ps.take 9) = nR q.2.2 (rE q.1 ((ps.drop q.1).take (9 - q.1))) ∧ q.2.2.length = q.1 },
   fun q => .mk [(4, .v (q.1.2.1.val q.1.2.2.length)), (5, .v (y.val ps.length)), (6, .v (.int .i64 (q.1.1 : Int)))] 0 0 [] [] [own q.1.2.1 65 cOp 3 q.1.2.2, own y 9 xR 1 ps],
   fun q => 9 - q.1.1, ⟨(0, l0, []), Nat.zero_le _, Nat.zero_le _, by simp only [nR, List.nil_append, List.drop_zero]; cases rE 0 (ps.take 9) <;> rfl, rfl⟩, ?_, ?_⟩
 · exact aC [1, 0] zw2 zw0 zw2 zw5 zw4 rfl rfl
 rintro ⟨⟨i, z, ns⟩, i1, i2, i3, i4⟩
 simp only at i1 i2 i3 i4 ⊢
 apply CaseB.mk <;> intro g
 refine CaseB.mk (fun g2 => ?_) (fun g2 => ?_)
 · have hlt : i < ps.length := by have := of_decide_eq_true g; omega
   have h8 : i < 9 := by have := of_decide_eq_true g2; omega
   have hw := bD i _ hlt (by omega)
   obtain ⟨m, hm⟩ : ∃ m, 9 - i = m + 1 := ⟨8 - i, by omega⟩
   have hd : (ps.drop i).take (9 - i) = ps[i] :: (ps.drop (i + 1)).take (9 - (i + 1)) := by rw [hm, drop_take hlt, show 9 - (i + 1) = m by omega]
   rw [hd] at i3
   refine aG kR aA rfl rfl rfl rfl rfl ⟨rfl, rfl⟩ (bX 1 rfl) i rfl z43 (fun ad => ?_)
   obtain ⟨pt, hpe⟩ : ∃ pt, pt = ps[i] := ⟨_, rfl⟩
   have hpl : pt.length ≤ 1000 := by rw [hpe]; exact hpt _ (List.getElem_mem hlt)
   rw [← hpe] at i3 ⊢
   have hbad : xW i pt = none → M = none := fun h => by rw [hM, i3.trans (bL0 h)]
   refine CaseB.mk (fun g3 => ?_) (fun g3 => ?_)
   · have hi0 : ¬ i = 0 := by have := of_decide_eq_true g3; omega
     have hop : xW i pt = if pt.head? = some 32 then fC (pt.drop 1) else none := if_neg hi0
     refine cM rfl rfl rfl ⟨rfl, rfl⟩ (.bool (pt == [])) (fun w => bI w) (fun w => wH w) ?_
     refine CaseB.mk (fun g4 => ?_) (fun g4 => ?_)
     · have e0 : pt = [] := by simpa using g4
       have e := hbad (by rw [hop, e0]; rfl)
       refine AllSl.mk fun l2 => ?_
       exact bG [0] ⟨l2, [], false, rfl, fun _ => e, fun h => z104, rfl⟩ z144 rfl ⟨rfl, trivial⟩ (fun _ => rfl)
     have hpp : 0 < pt.length := by
       cases pt with
       | nil => simp at g4
       | cons a r => simp
     have hh : pt.head? = some pt[0] := by rw [List.head?_eq_getElem?, List.getElem?_eq_getElem hpp]
     refine kB aA rfl rfl rfl rfl ⟨rfl, rfl⟩ (0) rfl z43 ?_
     refine CaseB.mk (fun g5 => ?_) (fun g5 => ?_)
     · have e32 : ¬ pt[0] = 32 := fun h => by rw [h] at g5; simp at g5
       have e := hbad (by rw [hop, hh, if_neg (fun h => e32 (Option.some.inj h))])
       refine AllSl.mk fun l2 => ?_
       exact bG [0] ⟨l2, [], false, rfl, fun _ => e, fun h => z104, rfl⟩ z144 rfl ⟨rfl, trivial⟩ (fun _ => rfl)
     have e32 : pt[0] = 32 := (dE0 _ 32).1 (by simpa using g5)
     rw [hh, e32, if_pos rfl] at hop
     refine CaseB.mk (fun g6 => ?_) (fun g6 => by rw [g3] at g6; cases g6)
     refine mK aA rfl rfl rfl ⟨rfl, rfl⟩ rfl rfl (1) (pt.length) rfl rfl z43 z43 ?_
     have hc1 : (pt.drop 1).take (pt.length - 1) = pt.drop 1 := List.take_of_length_le z87
     rw [hc1]
     have htl : (pt.drop 1).length ≤ 1000 := by simp; omega
     generalize pt.drop 1 = tx at hop htl ⊢
     refine aB _ nR0 rfl rfl rfl rfl ⟨rfl, rfl⟩ (fun A w hW => (zT tx w htl)) ?_
     rintro v L ⟨rfl, rfl⟩
     cases ho : fC tx with
     | none =>
       refine CaseB.mk (fun g7 => ?_) (fun g7 => by simp at g7)
       refine AllSl.mk fun l2 => ?_
       have e := hbad (hop.trans ho)
       exact bG [0] ⟨l2, [], false, rfl, fun _ => e, fun h => z104, rfl⟩ z144 rfl ⟨rfl, trivial⟩ (fun _ => rfl)
     | some o =>
       refine CaseB.mk (fun g7 => by simp at g7) (fun g7 => ?_)
       refine AllSl.mk fun b3 => ?_
       refine bQ oE 1 aA (xs := ns) (ys := [o]) rfl rfl rfl rfl rfl rfl rfl rfl rfl (by decide) ⟨rfl, rfl⟩ rfl z35 z43 z43 (fun z3 => ?_)
       refine ⟨⟨(i + 1, z3, ns ++ [o]), h8, hlt, i3.trans (tZ (hop.trans ho)), by simp; omega⟩, ?_, by simp only; omega⟩
       exact aC [0, 2] zw1 zw0 zw1 zw5 zw3 rfl rfl
   have hi0 : i = 0 := by have := of_decide_eq_false g3; omega
   have hop : xW i pt = fC pt := if_pos hi0
   refine CaseB.mk (fun g6 => by rw [g3] at g6; cases g6) (fun g6 => ?_)
   have htl := hpl
   refine aB _ nR0 rfl rfl rfl rfl ⟨rfl, rfl⟩ (fun A w hW => (zT pt w htl)) ?_
   rintro v L ⟨rfl, rfl⟩
   cases ho : fC pt with
   | none =>
     refine CaseB.mk (fun g7 => ?_) (fun g7 => by simp at g7)
     refine AllSl.mk fun l2 => ?_
     have e := hbad (hop.trans ho)
     exact bG [0] ⟨l2, [], false, rfl, fun _ => e, fun h => z104, rfl⟩ z144 rfl ⟨rfl, trivial⟩ (fun _ => rfl)
   | some o =>
     refine CaseB.mk (fun g7 => by simp at g7) (fun g7 => ?_)
     refine AllSl.mk fun b3 => ?_
     refine bQ oE 1 aA (xs := ns) (ys := [o]) rfl rfl rfl rfl rfl rfl rfl rfl rfl (by decide) ⟨rfl, rfl⟩ rfl z35 z43 z43 (fun z3 => ?_)
     refine ⟨⟨(i + 1, z3, ns ++ [o]), h8, hlt, i3.trans (tZ (hop.trans ho)), by simp; omega⟩, ?_, by simp only; omega⟩
     exact aC [0, 2] zw1 zw0 zw1 zw5 zw3 rfl rfl
 have hfin : rE 0 (ps.take 9) = some ns := by
   rw [i3, show 9 - i = 0 by have := of_decide_eq_false g2; omega, List.take_zero]
   simp [rE, nR]
 rotate_left
 have hfin : rE 0 (ps.take 9) = some ns := by
   rw [i3, List.drop_eq_nil_of_le z85, List.take_nil]
   simp [rE, nR]
 rotate_left
 all_goals
   rw [hfin] at hM
   simp only at hM
   by_cases he : ps.length ≤ 8
   · rw [if_pos he] at hM
     exact bG [0] ⟨z, ns, _, rfl, fun h => by have := of_decide_eq_false h; omega, fun _ => hM, rfl⟩ z144 rfl ⟨rfl, trivial⟩ (fun _ => rfl)
   · rw [if_neg he] at hM
     exact bG [0] ⟨z, ns, _, rfl, fun _ => hM, fun h => by have := of_decide_eq_true h; omega, rfl⟩ z144 rfl ⟨rfl, trivial⟩ (fun _ => rfl)
theorem OpOk.near {p : Prog} (ok : ProgOk p) {o : Op} (h : OpOk p o) : o.near := by
 obtain ⟨h1, h2, h3, h4, h5⟩ := h
 have hs : p.shared o.kind ≤ 4 := by
   have := ok.sems.1
   have := ok.groups.1
   have := ok.barriers.1
   have := ok.rooms.1
   unfold Prog.shared
   repeat' split
   all_goals omega
 have ha : -100 ≤ o.arg ∧ o.arg ≤ 1000 := by
   unfold Prog.argOk at h5
   split at h5
   · have hg : p.sems.getD o.on.toNat 0 ≤ 9 := by
       rw [List.getD_eq_getElem?_getD]
       cases e : p.sems[o.on.toNat]? with
       | none => simp
       | some x => exact (ok.sems.2 x (List.mem_of_getElem? e)).2
     omega
   · split at h5
     · omega
     · split at h5
       · simp [aV] at h5; omega
       · omega
 exact ⟨by omega, by omega, by omega, by omega⟩
theorem nS {l : List Int} {a b : Int} (h : iL l a b) (ha : -1000 ≤ a) (hb : b ≤ 1000) : ∀ x ∈ l, xV x := fun x hx => by
 have := h.2 x hx
 exact ⟨by omega, by omega⟩
theorem iI0 {first : Bool} {out : Str} {l : List Op} {k : Nat} (h : k < l.length) : pE first out (l.drop k) = pE false (((if first = true then out else out ++ [44]) ++ [32]) ++ gB l[k]) (l.drop (k + 1)) := by
 rw [List.drop_eq_getElem_cons h, pE]
theorem yF {out : Str} {l : List (List Op)} {k : Nat} (h : k < l.length) : gX out (l.drop k) = gX (pE true (out ++ [116, 104, 114, 101, 97, 100]) l[k] ++ [10]) (l.drop (k + 1)) := by
 rw [List.drop_eq_getElem_cons h, gX]
theorem iJ0 (p : ProgH) (w : World) (h : At w [fR (aY p)]) (ok : ProgOk p.pure) :
   Calls Tryz.prog 156 #[dW p] w (Ret w fun v L => v = .string (bs (tX p.pure)) ∧ L = []) := by
 have s0 : p.sems.length ≤ 3 := ok.sems.1
 have s1 : p.groups.length ≤ 3 := ok.groups.1
 have s2 : p.barriers.length ≤ 3 := ok.barriers.1
 have s3 : p.rooms.length ≤ 3 := ok.rooms.1
 have lt : p.pure.threads.length = p.threads.length := by simp [ProgH.pure]
 have s4 : p.threads.length ≤ 4 := by rw [← lt]; exact ok.n4
 have q0 := rB [115, 101, 109, 115] p.sems
 have q1 := rB [103, 114, 111, 117, 112, 115] p.groups
 have q2 := rB [98, 97, 114, 114, 105, 101, 114, 115] p.barriers
 have q3 := rB [114, 111, 111, 109, 115] p.rooms
 simp only [List.length_cons, List.length_nil] at q0 q1 q2 q3
 refine bZ Tryz.func156 rfl aA w _ rfl _ rfl _ h ⟨rfl, rfl, trivial⟩ _ (by decide) ?_
 refine aB _ fH0 rfl rfl rfl rfl ⟨rfl, rfl⟩ (fun A w hW => mE p w ⟨hW.get 0 rfl (.refl _), trivial⟩ ⟨by omega, by omega, by omega, by omega⟩) ?_
 rintro v L ⟨b0, rfl, hb0, rfl⟩
 refine CaseB.mk (fun g => by rw [hb0.2 ok] at g; cases g) (fun _ => ?_)
 refine aF aA z102 z102 z102 200 [((0, 0), .v (p.h0.val p.sems.length)), ((0, 1), .v (p.h1.val p.groups.length)), ((0, 2), .v (p.h2.val p.barriers.length)), ((0, 3), .v (p.h3.val p.rooms.length)), ((0, 4), .v (p.h4.val p.threads.length))] [] [] z117 z133 trivial rfl ?_
 refine bN _ fS0 rfl rfl rfl rfl ⟨rfl, rfl⟩ (fun A w hW => (bJ0 [115, 101, 109, 115] p.h0 p.sems w ⟨hW.get 0 rfl (.ofR (eM p)), trivial⟩ (by decide) (by omega) (nS ok.sems (by decide) (by decide)))) ?_
 rintro v L ⟨rfl, rfl⟩
 refine bN _ fS0 rfl rfl rfl rfl ⟨rfl, rfl⟩ (fun A w hW => (bJ0 [103, 114, 111, 117, 112, 115] p.h1 p.groups w ⟨hW.get 0 rfl (.ofR (iW p)), trivial⟩ (by decide) (by omega) (nS ok.groups (by decide) (by decide)))) ?_
 rintro v L ⟨rfl, rfl⟩
 refine kT rfl rfl rfl ⟨rfl, rfl⟩ (.string (bs ((fF [115, 101, 109, 115] p.sems) ++ (fF [103, 114, 111, 117, 112, 115] p.groups)))) (fun w => bI w) (fun w => dB (by omega) w) ?_
 refine bN _ fS0 rfl rfl rfl rfl ⟨rfl, rfl⟩ (fun A w hW => (bJ0 [98, 97, 114, 114, 105, 101, 114, 115] p.h2 p.barriers w ⟨hW.get 0 rfl (.ofR (eH p)), trivial⟩ (by decide) (by omega) (nS ok.barriers (by decide) (by decide)))) ?_
 rintro v L ⟨rfl, rfl⟩
 refine kT rfl rfl rfl ⟨rfl, rfl⟩ (.string (bs ((fF [115, 101, 109, 115] p.sems ++ fF [103, 114, 111, 117, 112, 115] p.groups) ++ (fF [98, 97, 114, 114, 105, 101, 114, 115] p.barriers)))) (fun w => bI w) (fun w => dB (by simp only [List.length_append]; omega) w) ?_
 refine bN _ fS0 rfl rfl rfl rfl ⟨rfl, rfl⟩ (fun A w hW => (bJ0 [114, 111, 111, 109, 115] p.h3 p.rooms w ⟨hW.get 0 rfl (.ofR (gN p)), trivial⟩ (by decide) (by omega) (nS ok.rooms (by decide) (by decide)))) ?_
 rintro v L ⟨rfl, rfl⟩
 refine kT rfl rfl rfl ⟨rfl, rfl⟩ (.string (bs (((fF [115, 101, 109, 115] p.sems ++ fF [103, 114, 111, 117, 112, 115] p.groups) ++ fF [98, 97, 114, 114, 105, 101, 114, 115] p.barriers) ++ (fF [114, 111, 111, 109, 115] p.rooms)))) (fun w => bI w) (fun w => dB (by simp only [List.length_append]; omega) w) ?_
 have hF : tX p.pure = gX (((fF [115, 101, 109, 115] p.sems ++ fF [103, 114, 111, 117, 112, 115] p.groups) ++ fF [98, 97, 114, 114, 105, 101, 114, 115] p.barriers) ++ fF [114, 111, 111, 109, 115] p.rooms) p.pure.threads := rfl
 rw [hF]
 have hol : ((((fF [115, 101, 109, 115] p.sems ++ fF [103, 114, 111, 117, 112, 115] p.groups) ++ fF [98, 97, 114, 114, 105, 101, 114, 115] p.barriers) ++ fF [114, 111, 111, 109, 115] p.rooms)).length ≤ 1000 := by simp only [List.length_append]; omega
 clear hF q0 q1 q2 q3
 generalize (((fF [115, 101, 109, 115] p.sems ++ fF [103, 114, 111, 117, 112, 115] p.groups) ++ fF [98, 97, 114, 114, 105, 101, 114, 115] p.barriers) ++ fF [114, 111, 111, 109, 115] p.rooms) = o1 at hol ⊢
 refine LoopW.mk ⟨{ q : Nat × Str // q.1 ≤ p.threads.length ∧ gX o1 p.pure.threads = gX q.2 (p.pure.threads.drop q.1) ∧ q.2.length ≤ 1000 + 1000 * q.1 },
   fun q => .mk [(1, .p 0 0), (3, .v (.string (bs q.1.2))), (4, .v (.int .i64 (q.1.1 : Int)))] 1 0 [(0, 26, 5)] [((0, 4), .v (p.h4.val p.threads.length))] [fR (aY p)],
   fun q => p.threads.length - q.1.1, ⟨(0, o1), Nat.zero_le _, rfl, by simpa using hol⟩, ?_, ?_⟩
 · exact aC [0] zw2 zw0 zw2 zw5 zw4 rfl rfl
 rintro ⟨⟨i, out⟩, i1, i2, i3⟩
 simp only at i1 i2 i3 ⊢
 apply CaseB.mk <;> intro g
 · have hlt : i < p.threads.length := by have := of_decide_eq_true g; omega
   have hlt2 : i < p.pure.threads.length := by omega
   have hw := bD i _ hlt (by omega)
   have ht : p.pure.threads[i] = (p.threads[i]).m := by simp [ProgH.pure]
   have hopk := ok.ops _ (List.getElem_mem hlt2)
   rw [ht] at hopk
   rw [yF hlt2, ht] at i2
   refine cM rfl rfl rfl ⟨rfl, rfl⟩ (.string (bs (out ++ [116, 104, 114, 101, 97, 100]))) (fun w => bI w) (fun w => dB z78 w) ?_
   obtain ⟨ops, hops⟩ : ∃ ops, ops = (p.threads[i]).m := ⟨_, rfl⟩
   rw [← hops] at hopk i2
   refine LoopW.mk ⟨{ q : Nat × Str // q.1 ≤ ops.length ∧ pE true (out ++ [116, 104, 114, 101, 97, 100]) ops = pE (decide (q.1 = 0)) q.2 (ops.drop q.1) ∧ q.2.length ≤ out.length + 6 + 62 * q.1 },
     fun q => .mk [(1, .p 0 0), (3, .v (.string (bs q.1.2))), (4, .v (.int .i64 (i : Int))), (5, .v (.int .i64 (q.1.1 : Int)))] 1 0 [(0, 26, 5)] [((0, 4), .v (p.h4.val p.threads.length))] [fR (aY p)],
     fun q => ops.length - q.1.1, ⟨(0, out ++ [116, 104, 114, 101, 97, 100]), Nat.zero_le _, rfl, by simp⟩, ?_, ?_⟩
   · exact aC [0] zw2 zw0 zw2 zw5 zw4 rfl rfl
   rintro ⟨⟨k, o2⟩, k1, k2, k3⟩
   simp only at k1 k2 k3 ⊢
   subst hops
   refine aG dT aA rfl rfl rfl rfl rfl ⟨rfl, rfl⟩ (aL 0 rfl (.trans (.R_R (bB p)) (.ofR aX))) i rfl z43 (fun ad => ?_)
   refine CaseB.mk (fun g2 => ?_) (fun g2 => ?_)
   · have hkl : k < (p.threads[i]).m.length := by have := of_decide_eq_true g2; omega
     have hw2 := bD k _ hkl (by omega)
     have hne := OpOk.near ok (hopk.2 _ (List.getElem_mem hkl))
     have hfl := eR0 ((p.threads[i]).m[k])
     rw [iI0 hkl] at k2
     refine CaseB.mk (fun g3 => ?_) (fun g3 => ?_)
     · have hk0 : ¬ k = 0 := by have := of_decide_eq_true g3; omega
       rw [decide_eq_false hk0, if_neg (by decide)] at k2
       refine cM rfl rfl rfl ⟨rfl, rfl⟩ (.string (bs (o2 ++ [44]))) (fun w => bI w) (fun w => dB z78 w) ?_
       refine cM rfl rfl rfl ⟨rfl, rfl⟩ (.string (bs ((o2 ++ [44]) ++ [32]))) (fun w => bI w) (fun w => dB z59 w) ?_
       refine aG dT aA rfl rfl rfl rfl rfl ⟨rfl, rfl⟩ (aL 0 rfl (.trans (.R_R (bB p)) (.ofR aX))) i rfl z43 (fun ad2 => ?_)
       refine aG oE aA rfl rfl rfl rfl rfl ⟨rfl, rfl⟩ (aL 0 rfl (.trans (.R_R (bB p)) (.ofR (fZ _ _ i hlt)))) k rfl hkl (fun ad3 => ?_)
       refine aB _ jH0 rfl rfl rfl rfl ⟨rfl, rfl⟩ (fun A w hW => (bI0 _ w hne)) ?_
       rintro v L ⟨rfl, rfl⟩
       refine cM rfl rfl rfl ⟨rfl, rfl⟩ (.string (bs (((o2 ++ [44]) ++ [32]) ++ (gB ((p.threads[i]).m[k]))))) (fun w => bI w) (fun w => dB z59 w) ?_
       refine ⟨⟨(k + 1, ((o2 ++ [44]) ++ [32]) ++ gB ((p.threads[i]).m[k])), hkl, by rw [decide_eq_false (by omega)]; exact k2, by simp only [List.length_append, List.length_cons, List.length_nil]; omega⟩, ?_, by simp only; omega⟩
       exact aC [0] zw8 zw0 zw8 zw5 zw21 rfl rfl
     have hk0 : k = 0 := by have := of_decide_eq_false g3; omega
     rw [decide_eq_true hk0, if_pos rfl] at k2
     refine cM rfl rfl rfl ⟨rfl, rfl⟩ (.string (bs (o2 ++ [32]))) (fun w => bI w) (fun w => dB z59 w) ?_
     refine aG dT aA rfl rfl rfl rfl rfl ⟨rfl, rfl⟩ (aL 0 rfl (.trans (.R_R (bB p)) (.ofR aX))) i rfl z43 (fun ad2 => ?_)
     refine aG oE aA rfl rfl rfl rfl rfl ⟨rfl, rfl⟩ (aL 0 rfl (.trans (.R_R (bB p)) (.ofR (fZ _ _ i hlt)))) k rfl hkl (fun ad3 => ?_)
     refine aB _ jH0 rfl rfl rfl rfl ⟨rfl, rfl⟩ (fun A w hW => (bI0 _ w hne)) ?_
     rintro v L ⟨rfl, rfl⟩
     refine cM rfl rfl rfl ⟨rfl, rfl⟩ (.string (bs ((o2 ++ [32]) ++ (gB ((p.threads[i]).m[k]))))) (fun w => bI w) (fun w => dB z59 w) ?_
     refine ⟨⟨(k + 1, (o2 ++ [32]) ++ gB ((p.threads[i]).m[k])), hkl, by rw [decide_eq_false (by omega)]; exact k2, by simp only [List.length_append, List.length_cons, List.length_nil]; omega⟩, ?_, by simp only; omega⟩
     exact aC [0] zw8 zw0 zw8 zw5 zw21 rfl rfl
   have hge : (p.threads[i]).m.length ≤ k := by have := of_decide_eq_false g2; omega
   rw [List.drop_eq_nil_of_le hge, pE] at k2
   rw [k2] at i2
   refine cM rfl rfl rfl ⟨rfl, rfl⟩ (.string (bs (o2 ++ [10]))) (fun w => bI w) (fun w => dB z59 w) ?_
   refine ⟨⟨(i + 1, o2 ++ [10]), hlt, i2, by simp only [List.length_append, List.length_cons, List.length_nil]; omega⟩, ?_, by simp only; omega⟩
   exact aC [0] zw1 zw0 zw1 zw5 zw3 rfl rfl
 have hge : p.pure.threads.length ≤ i := by have := of_decide_eq_false g; omega
 rw [List.drop_eq_nil_of_le hge, gX] at i2
 rw [i2]
 exact aH ⟨rfl, rfl⟩ (fun _ => rfl)
def lM0 : Prog := ⟨[], [], [], [], []⟩
def pI0 : ProgH := ⟨[], [], [], [], [], ⟨none, 0⟩, ⟨none, 0⟩, ⟨none, 0⟩, ⟨none, 0⟩, ⟨none, 0⟩⟩
def nY (ls : List Str) : List Str := (ls.take (ls.length - 1)).take 9
theorem eX0 {α β : Type} (f : β → α → β) (z : β) (l : List α) {k : Nat} (h : k < l.length) : (l.take (k + 1)).foldl f z = f ((l.take k).foldl f z) l[k] := by
 rw [List.take_succ_eq_append_getElem h, List.foldl_append]; rfl
theorem dI0 (t : Str) (w : World) (hb : t.length ≤ 1000) (ok : ProgOk (sH t)) (hf : tX (sH t) = t) :
   Calls Tryz.prog 99 #[.string (bs t)] w (Ret w fun v L => ∃ p : ProgH, v = .tuple #[dW p, .bool true] ∧ p.pure = sH t ∧ L = [fO (aY p)]) := by
 have hcl := tU 10 t
 have hpt : ∀ x ∈ gL 10 t, x.length ≤ 1000 := fun x hx => Nat.le_trans (rA hx) hb
 have hM : sH t = (nY (gL 10 t)).foldl mA lM0 := rfl
 generalize sH t = M at ok hf hM ⊢
 refine bZ Tryz.func99 rfl aA w _ rfl _ rfl [] trivial trivial _ (by decide) ?_
 refine aB _ fM0 rfl rfl rfl rfl ⟨rfl, rfl⟩ (fun A w hW => (gL0 t 10 w (by omega))) ?_
 rintro v L ⟨y, rfl, rfl⟩
 generalize gL 10 t = ls at hcl hpt hM ⊢
 have hLl : (nY ls).length ≤ 9 ∧ (nY ls).length + 1 ≤ ls.length ∧ ((nY ls).length = 9 ∨ (nY ls).length + 1 = ls.length) := by
   simp only [nY, List.length_take]; omega
 have hLi : ∀ (i : Nat) (h : i < (nY ls).length) (h2 : i < ls.length), (nY ls)[i] = ls[i] := fun i h h2 => by simp [nY]
 generalize nY ls = Ls at hM hLl hLi
 refine LoopW.mk ⟨{ q : Nat × ProgH // q.1 ≤ Ls.length ∧ q.2.pure = (Ls.take q.1).foldl mA lM0 ∧ q.2.threads.length ≤ q.1 },
   fun q => .mk [(0, .v (.string (bs t))), (2, .p 0 0), (4, .v (y.val ls.length)), (5, .p 1 0), (6, .v (.int .i64 (q.1.1 : Int)))] 2 0 [(0, 26, 5), (1, 26, 5)] [((1, 0), .v (q.1.2.h0.val q.1.2.sems.length)), ((1, 1), .v (q.1.2.h1.val q.1.2.groups.length)), ((1, 2), .v (q.1.2.h2.val q.1.2.barriers.length)), ((1, 3), .v (q.1.2.h3.val q.1.2.rooms.length)), ((1, 4), .v (q.1.2.h4.val q.1.2.threads.length))] [own q.1.2.h0 3 aJ 1 q.1.2.sems, own q.1.2.h1 3 aJ 1 q.1.2.groups, own q.1.2.h2 3 aJ 1 q.1.2.barriers, own q.1.2.h3 3 aJ 1 q.1.2.rooms, own q.1.2.h4 68 kP 1 q.1.2.threads, fO (q.1.2.threads.flatMap pX), own y 9 xR 1 ls],
   fun q => Ls.length - q.1.1, ⟨(0, pI0), Nat.zero_le _, rfl, Nat.le_refl _⟩, ?_, ?_⟩
 · refine aP (.joinO [] (Gs := []) trivial rfl (.refl _)) ?_
   exact aC [95, 96, 97, 98, 99, 0, 1] zw2 zw0 zw2 zw5 zw4 rfl rfl
 rintro ⟨⟨i, p⟩, i1, i2, i3⟩
 simp only at i1 i2 i3 ⊢
 have hw0 : IntKind.i64.wrap ((i : Int) + 1) = ((i + 1 : Nat) : Int) := bD i 100 (by omega) (by omega)
 apply CaseB.mk <;> intro g
 refine CaseB.mk (fun g2 => ?_) (fun g2 => ?_)
 · rw [hw0] at g
   have hlt : i < ls.length := by have := of_decide_eq_true g; omega
   have hiL : i < Ls.length := by have := of_decide_eq_true g; have := of_decide_eq_true g2; omega
   have hst := eX0 mA lM0 Ls hiL
   rw [← i2, hLi i hiL hlt] at hst
   obtain ⟨ln, hln⟩ : ∃ ln, ln = ls[i] := ⟨_, rfl⟩
   have hll : ln.length ≤ 1000 := by rw [hln]; exact hpt _ (List.getElem_mem hlt)
   rw [← hln] at hst
   refine aG kR aA rfl rfl rfl rfl rfl ⟨rfl, rfl⟩ (bX 6 rfl) i rfl z43 (fun ad0 => ?_)
   rw [← hln]
   refine aB _ fN0 rfl rfl rfl rfl ⟨rfl, rfl⟩ (fun A w hW => (bK0 ln [115, 101, 109, 115] w hll)) ?_
   rintro v L ⟨z0, n0, b0, rfl, f0, t0, rfl⟩
   refine aG kR aA rfl rfl rfl rfl rfl ⟨rfl, rfl⟩ (bX 7 rfl) i rfl z43 (fun ad1 => ?_)
   rw [← hln]
   refine aB _ fN0 rfl rfl rfl rfl ⟨rfl, rfl⟩ (fun A w hW => (bK0 ln [103, 114, 111, 117, 112, 115] w hll)) ?_
   rintro v L ⟨z1, n1, b1, rfl, f1, t1, rfl⟩
   refine aG kR aA rfl rfl rfl rfl rfl ⟨rfl, rfl⟩ (bX 8 rfl) i rfl z43 (fun ad2 => ?_)
   rw [← hln]
   refine aB _ fN0 rfl rfl rfl rfl ⟨rfl, rfl⟩ (fun A w hW => (bK0 ln [98, 97, 114, 114, 105, 101, 114, 115] w hll)) ?_
   rintro v L ⟨z2, n2, b2, rfl, f2, t2, rfl⟩
   refine aG kR aA rfl rfl rfl rfl rfl ⟨rfl, rfl⟩ (bX 9 rfl) i rfl z43 (fun ad3 => ?_)
   rw [← hln]
   refine aB _ fN0 rfl rfl rfl rfl ⟨rfl, rfl⟩ (fun A w hW => (bK0 ln [114, 111, 111, 109, 115] w hll)) ?_
   rintro v L ⟨z3, n3, b3, rfl, f3, t3, rfl⟩
   refine aG kR aA rfl rfl rfl rfl rfl ⟨rfl, rfl⟩ (bX 10 rfl) i rfl z43 (fun ad4 => ?_)
   rw [← hln]
   refine aB _ cl155 rfl rfl rfl rfl ⟨rfl, rfl⟩ (fun A w hW => (iH0 ln w hll)) ?_
   rintro v L ⟨z4, n4, b4, rfl, f4, t4, rfl⟩
   refine CaseB.mk (fun e0 => ?_) (fun e0 => ?_)
   · have hn : mA p.pure ln = (ProgH.pure { p with sems := n0, h0 := z0 }) := by simp only [mA, t0 e0]; rfl
     refine ⟨⟨(i + 1, { p with sems := n0, h0 := z0 }), hiL, by rw [hst, hn], show p.threads.length ≤ i + 1 by omega⟩, ?_, by simp only; omega⟩
     exact aC [4, 6, 7, 8, 9, 10, 11] zw7 zw0 zw7 zw5 zw15 rfl rfl
   refine CaseB.mk (fun e1 => ?_) (fun e1 => ?_)
   · have hn : mA p.pure ln = (ProgH.pure { p with groups := n1, h1 := z1 }) := by simp only [mA, f0 e0, t1 e1]; rfl
     refine ⟨⟨(i + 1, { p with groups := n1, h1 := z1 }), hiL, by rw [hst, hn], show p.threads.length ≤ i + 1 by omega⟩, ?_, by simp only; omega⟩
     exact aC [5, 3, 7, 8, 9, 10, 11] zw7 zw0 zw7 zw5 zw15 rfl rfl
   refine CaseB.mk (fun e2 => ?_) (fun e2 => ?_)
   · have hn : mA p.pure ln = (ProgH.pure { p with barriers := n2, h2 := z2 }) := by simp only [mA, f0 e0, f1 e1, t2 e2]; rfl
     refine ⟨⟨(i + 1, { p with barriers := n2, h2 := z2 }), hiL, by rw [hst, hn], show p.threads.length ≤ i + 1 by omega⟩, ?_, by simp only; omega⟩
     exact aC [5, 6, 2, 8, 9, 10, 11] zw7 zw0 zw7 zw5 zw15 rfl rfl
   refine CaseB.mk (fun e3 => ?_) (fun e3 => ?_)
   · have hn : mA p.pure ln = (ProgH.pure { p with rooms := n3, h3 := z3 }) := by simp only [mA, f0 e0, f1 e1, f2 e2, t3 e3]; rfl
     refine ⟨⟨(i + 1, { p with rooms := n3, h3 := z3 }), hiL, by rw [hst, hn], show p.threads.length ≤ i + 1 by omega⟩, ?_, by simp only; omega⟩
     exact aC [5, 6, 7, 1, 9, 10, 11] zw7 zw0 zw7 zw5 zw15 rfl rfl
   refine CaseB.mk (fun e4 => ?_) (fun e4 => ?_)
   · refine AllSl.mk fun b5 => ?_
     obtain ⟨x, hx⟩ : ∃ x : OpSH, x = ⟨n4, z4⟩ := ⟨_, rfl⟩
     refine bQ dT 10 aA (xs := p.threads) (ys := [⟨n4, z4⟩]) rfl rfl rfl rfl rfl rfl rfl rfl rfl (by decide) ⟨rfl, rfl⟩ rfl z35 z43 z43 (fun z5 => ?_)
     rw [← hx]
     have hn : mA p.pure ln = (ProgH.pure { p with threads := p.threads ++ [x], h4 := z5 }) := by simp only [mA, f0 e0, f1 e1, f2 e2, f3 e3, t4 e4]; subst hx; simp [ProgH.pure]
     refine ⟨⟨(i + 1, { p with threads := p.threads ++ [x], h4 := z5 }), hiL, by rw [hst, hn], by simp; omega⟩, ?_, by simp only; omega⟩
     refine aP (.joinO [2, 11] (Gs := [[_], _]) z136 rfl (G := (p.threads ++ [x]).flatMap pX) (by subst hx; rw [List.flatMap_append]; exact (List.Perm.of_eq (by simp [pX])).trans List.perm_append_comm)) ?_
     exact aC [7, 8, 9, 10, 1, 0, 11] zw7 zw0 zw7 zw5 zw15 rfl rfl
   have hn : mA p.pure ln = p.pure := by simp only [mA, f0 e0, f1 e1, f2 e2, f3 e3, f4 e4]
   refine ⟨⟨(i + 1, p), hiL, by rw [hst, hn], show p.threads.length ≤ i + 1 by omega⟩, ?_, by simp only; omega⟩
   exact aC [5, 6, 7, 8, 9, 10, 11] zw7 zw0 zw7 zw5 zw15 rfl rfl
 have hie : i = Ls.length := by have := of_decide_eq_false g2; omega
 rotate_left
 have hie : i = Ls.length := by rw [hw0] at g; have := of_decide_eq_false g; omega
 rotate_left
 all_goals
   rw [hie, List.take_length, ← hM] at i2
   have sz : p.sems.length ≤ 3 ∧ p.groups.length ≤ 3 ∧ p.barriers.length ≤ 3 ∧ p.rooms.length ≤ 3 := by
     rw [← i2] at ok; exact ⟨ok.sems.1, ok.groups.1, ok.barriers.1, ok.rooms.1⟩
   refine xA (.joinO [0, 1, 2, 3, 4, 5] (Gs := [[_], [_], [_], [_], [_], _]) z113 rfl (G := aY p) (.of_eq (by simp [aY, oF, iK]))) ?_
   refine aB _ fH0 rfl rfl rfl rfl ⟨rfl, rfl⟩ (fun A w hW => mE p w ⟨hW.get 0 rfl (.O_R fun _ h => h), trivial⟩ ⟨by omega, by omega, by omega, by omega⟩) ?_
   rintro v L ⟨b0, rfl, hb0, rfl⟩
   rw [i2] at hb0
   refine CaseB.mk (fun g3 => by rw [hb0.2 ok] at g3; cases g3) (fun _ => ?_)
   refine aB _ cl156 rfl rfl rfl rfl ⟨rfl, rfl⟩ (fun A w hW => (iJ0 p w ⟨hW.get 0 rfl (.O_R fun _ h => h), trivial⟩ (by rw [i2]; exact ok))) ?_
   rintro v L ⟨rfl, rfl⟩
   rw [i2, hf]
   refine cM rfl rfl rfl ⟨rfl, rfl⟩ (.bool (t != t)) (fun w => bI w) (fun w => wI w) ?_
   refine CaseB.mk (fun g4 => by simp at g4) (fun _ => ?_)
   exact bG [0] ⟨p, rfl, i2, rfl⟩ z144 rfl ⟨rfl, trivial⟩ (fun _ => rfl)
end Go.Proofs.YtijmjecehppbfaaGreat
