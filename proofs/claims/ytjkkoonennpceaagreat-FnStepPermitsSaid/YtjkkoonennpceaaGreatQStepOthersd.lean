/- FnStepOthers: texts that its proof stands on, part 4. -/
import Derived.Test.YtjkkoonennpceaaGreatQStepOthersc
namespace Go.Proofs.YtjkkoonennpceaaGreat
open Go Go.Sx Go.RowKit
theorem pow_le {a b : Nat} (h : a ≤ b) : 10 ^ a ≤ 10 ^ b := Nat.pow_le_pow_right (by decide) h
theorem numG_step {n : Int} {s : Str} {i : Nat} (h : i < s.length) : numG n (s.drop i) = if (s[i]).toNat < 48 ∨ 57 < (s[i]).toNat then none else numG (n * 10 + (((s[i]).toNat : Int) - 48)) (s.drop (i + 1)) := by
 rw [List.drop_eq_getElem_cons h, numG]
set_option maxHeartbeats 8000000 in
set_option maxRecDepth 100000 in
theorem snum_c (s : Str) (w : World) (hb : s.length ≤ 1000000) :
   Calls Tryz.prog 171 #[.string (bs s)] w (Ret w fun v L => v = .tuple #[.int .i64 ((numM s).getD 0), .bool (numM s).isSome] ∧ L = []) := by
 generalize hM : numM s = M
 have hbad : numBad s → M = none := fun h => by rw [← hM]; exact if_pos h
 refine calls1 Tryz.func171 rfl tabOk w _ rfl _ rfl [] trivial trivial _ (by decide) ?_
 refine stop_slen tabOk rfl rfl rfl rfl rfl rfl ⟨rfl, rfl⟩ ?_
 apply CaseB.mk <;> intro g
 · have hpos : 0 < s.length := by have := of_decide_eq_true g; omega
   have hh : s.head? = some s[0] := by rw [List.head?_eq_getElem?, List.getElem?_eq_getElem hpos]
   refine stop_sidx tabOk rfl rfl rfl rfl ⟨rfl, rfl⟩ (0) rfl z38 ?_
   refine CaseB.mk (fun g2 => ?_) (fun g2 => ?_)
   refine stop_scut tabOk rfl rfl rfl ⟨rfl, rfl⟩ rfl rfl (1) (s.length) rfl rfl z38 z38 ?_
   have hn : isNeg s = true := by rw [isNeg, hh]; exact decide_eq_true (congrArg some ((u8_eq _ 45).1 z87))
   have ht : unNeg s = (s.drop 1).take (s.length - 1) := by rw [unNeg, if_pos hn, List.take_of_length_le z81]
   have htl : (unNeg s).length ≤ 1000000 := by rw [ht]; simp; omega
   generalize (s.drop 1).take (s.length - 1) = t at ht ⊢
   generalize ((s[0].toNat : Int) == 45) = nb at g2 ⊢
   rw [← g2] at hn
   have hbad2 : t.length = 0 ∨ 17 < t.length ∨ (t.head? = some 48 ∧ (1 < t.length ∨ nb = true)) → M = none := fun h => hbad z82
   have hM2 : ¬ (t.length = 0 ∨ 17 < t.length ∨ (t.head? = some 48 ∧ (1 < t.length ∨ nb = true))) → M = (numG 0 t).map fun n => if nb = true then -n else n := fun h => by rw [← hM, numM, if_neg z82, ht, hn]
   rw [ht] at htl
   refine stop_slen tabOk rfl rfl rfl rfl rfl rfl ⟨rfl, rfl⟩ ?_
   refine CaseB.mk (fun g3 => ?_) (fun g3 => ?_)
   · obtain rfl := hbad2 (.inl z88)
     exact ret0 ⟨rfl, rfl⟩ (fun _ => rfl)
   refine stop_slen tabOk rfl rfl rfl rfl rfl rfl ⟨rfl, rfl⟩ ?_
   refine CaseB.mk (fun g4 => ?_) (fun g4 => ?_)
   · obtain rfl := hbad2 (.inr (.inl (by have := of_decide_eq_true g4; omega)))
     exact ret0 ⟨rfl, rfl⟩ (fun _ => rfl)
   have hp0 : 0 < t.length := by have h : ¬ (t.length : Int) = 0 := z88; omega
   have h17 : t.length ≤ 17 := by have := of_decide_eq_false g4; omega
   have hh2 : t.head? = some t[0] := by rw [List.head?_eq_getElem?, List.getElem?_eq_getElem hp0]
   refine stop_sidx tabOk rfl rfl rfl rfl ⟨rfl, rfl⟩ (0) rfl z38 ?_
   refine CaseB.mk (fun g5 => ?_) (fun g5 => ?_)
   · have e5 : t[0] = 48 := (u8_eq _ 48).1 (by simpa using g5)
     obtain rfl := hbad2 (.inr (.inr ⟨by rw [hh2, e5], .inr g2⟩))
     refine stop_slen tabOk rfl rfl rfl rfl rfl rfl ⟨rfl, rfl⟩ ?_
     refine CaseB.mk (fun g6 => ?_) (fun g6 => ?_)
     · exact ret0 ⟨rfl, rfl⟩ (fun _ => rfl)
     refine CaseB.mk (fun g7 => ?_) (fun g7 => ?_)
     · exact ret0 ⟨rfl, rfl⟩ (fun _ => rfl)
     rw [g2] at g7; cases g7
   have hg : ¬ (t.length = 0 ∨ 17 < t.length ∨ (t.head? = some 48 ∧ (1 < t.length ∨ nb = true))) := by
     rintro (h | h | ⟨h, h'⟩)
     · omega
     · omega
     · rw [hh2] at h; rw [Option.some.inj h] at g5; simp at g5
   rotate_left
   have hn : isNeg s = false := by rw [isNeg, hh]; exact decide_eq_false (fun h => by rw [Option.some.inj h] at g2; simp at g2)
   have ht : unNeg s = s := by rw [unNeg, if_neg (by rw [hn]; decide)]
   have htl : (unNeg s).length ≤ 1000000 := by rw [ht]; exact hb
   generalize ((s[0].toNat : Int) == 45) = nb at g2 ⊢
   rw [← g2] at hn
   obtain ⟨t, rfl⟩ : ∃ t, t = s := ⟨s, rfl⟩
   have hbad2 : t.length = 0 ∨ 17 < t.length ∨ (t.head? = some 48 ∧ (1 < t.length ∨ nb = true)) → M = none := fun h => hbad z82
   have hM2 : ¬ (t.length = 0 ∨ 17 < t.length ∨ (t.head? = some 48 ∧ (1 < t.length ∨ nb = true))) → M = (numG 0 t).map fun n => if nb = true then -n else n := fun h => by rw [← hM, numM, if_neg z82, ht, hn]
   rw [ht] at htl
   refine stop_slen tabOk rfl rfl rfl rfl rfl rfl ⟨rfl, rfl⟩ ?_
   refine CaseB.mk (fun g3 => ?_) (fun g3 => ?_)
   · obtain rfl := hbad2 (.inl z88)
     exact ret0 ⟨rfl, rfl⟩ (fun _ => rfl)
   refine stop_slen tabOk rfl rfl rfl rfl rfl rfl ⟨rfl, rfl⟩ ?_
   refine CaseB.mk (fun g4 => ?_) (fun g4 => ?_)
   · obtain rfl := hbad2 (.inr (.inl (by have := of_decide_eq_true g4; omega)))
     exact ret0 ⟨rfl, rfl⟩ (fun _ => rfl)
   have hp0 : 0 < t.length := by have h : ¬ (t.length : Int) = 0 := z88; omega
   have h17 : t.length ≤ 17 := by have := of_decide_eq_false g4; omega
   have hh2 : t.head? = some t[0] := by rw [List.head?_eq_getElem?, List.getElem?_eq_getElem hp0]
   refine stop_sidx tabOk rfl rfl rfl rfl ⟨rfl, rfl⟩ (0) rfl z38 ?_
   refine CaseB.mk (fun g5 => ?_) (fun g5 => ?_)
   refine stop_slen tabOk rfl rfl rfl rfl rfl rfl ⟨rfl, rfl⟩ ?_
   refine CaseB.mk (fun g6 => ?_) (fun g6 => ?_)
   · have e5 : t[0] = 48 := (u8_eq _ 48).1 (by simpa using g5)
     obtain rfl := hbad2 (.inr (.inr ⟨by rw [hh2, e5], .inl (by have := of_decide_eq_true g6; omega)⟩))
     exact ret0 ⟨rfl, rfl⟩ (fun _ => rfl)
   refine CaseB.mk (fun g7 => ?_) (fun g7 => ?_)
   · rw [g2] at g7; cases g7
   have hg : ¬ (t.length = 0 ∨ 17 < t.length ∨ (t.head? = some 48 ∧ (1 < t.length ∨ nb = true))) := by
     rintro (h | h | ⟨h, h'⟩)
     · omega
     · omega
     · have := of_decide_eq_false g6
       rcases h' with h' | h'
       · omega
       · rw [g7] at h'; cases h'
   rotate_left
   have hg : ¬ (t.length = 0 ∨ 17 < t.length ∨ (t.head? = some 48 ∧ (1 < t.length ∨ nb = true))) := by
     rintro (h | h | ⟨h, h'⟩)
     · omega
     · omega
     · rw [hh2] at h; rw [Option.some.inj h] at g5; simp at g5
   rotate_left
   all_goals
     have hG := hM2 hg
     refine LoopW.mk ⟨{ q : Nat × Int // q.1 ≤ t.length ∧ numG 0 t = numG q.2 (t.drop q.1) ∧ 0 ≤ q.2 ∧ q.2 < ((10 ^ q.1 : Nat) : Int) },
       fun q => .mk [(0, .v (.string (bs t))), (4, .v (.bool nb)), (5, .v (.int .i64 q.1.2)), (6, .v (.int .i64 (q.1.1 : Int)))] 0 0 [] [] [],
       fun q => t.length - q.1.1, ⟨(0, 0), Nat.zero_le _, rfl, by decide, by decide⟩, ?_, ?_⟩
     · exact weak_mk [] zw2 zw0 zw2 zw5 zw4 rfl rfl
     rintro ⟨⟨i, n⟩, i1, i2, i3, i4⟩
     simp only at i1 i2 i3 i4 ⊢
     have hno : numG 0 t = none → M = none := fun h => by rw [hG, h]; rfl
     refine stop_slen tabOk rfl rfl rfl rfl rfl rfl ⟨rfl, rfl⟩ ?_
     refine CaseB.mk (fun gi => ?_) (fun gi => ?_)
     · have hlt : i < t.length := by have := of_decide_eq_true gi; omega
       have hw := e_succ i _ hlt (by omega)
       refine stop_sidx tabOk rfl rfl rfl rfl ⟨rfl, rfl⟩ (i) rfl z38 ?_
       refine CaseB.mk (fun g8 => ?_) (fun g8 => ?_)
       · obtain rfl := hno (by rw [i2, numG_step hlt, if_pos (.inl (by have := of_decide_eq_true g8; omega))])
         exact ret0 ⟨rfl, rfl⟩ (fun _ => rfl)
       refine stop_sidx tabOk rfl rfl rfl rfl ⟨rfl, rfl⟩ (i) rfl z38 ?_
       refine CaseB.mk (fun g9 => ?_) (fun g9 => ?_)
       · obtain rfl := hno (by rw [i2, numG_step hlt, if_pos (.inr (by have := of_decide_eq_true g9; omega))])
         exact ret0 ⟨rfl, rfl⟩ (fun _ => rfl)
       have d0 : 48 ≤ (t[i].toNat : Int) := by have := of_decide_eq_false g8; omega
       have d9 : (t[i].toNat : Int) ≤ 57 := by have := of_decide_eq_false g9; omega
       have hp := pow_le (show i ≤ 16 by omega)
       have hp2 : 10 ^ (i + 1) = 10 ^ i * 10 := Nat.pow_succ ..
       have e16 : 10 ^ 16 = 10000000000000000 := rfl
       have hv : IntKind.i64.wrap (IntKind.i64.wrap (n * 10) + IntKind.i64.wrap (IntKind.u8.wrap ((t[i].toNat : Int) - 48))) = n * 10 + ((t[i].toNat : Int) - 48) := by
         have w1 : IntKind.i64.wrap (n * 10) = n * 10 := wrap_nn (by omega) (by omega)
         have w2 : IntKind.u8.wrap ((t[i].toNat : Int) - 48) = (t[i].toNat : Int) - 48 := by rw [IntKind.wrap_u8]; omega
         have w3 : IntKind.i64.wrap ((t[i].toNat : Int) - 48) = (t[i].toNat : Int) - 48 := wrap_nn (by omega) (by omega)
         rw [w1, w2, w3, wrap_nn (by omega) (by omega)]
       refine stop_sidx tabOk rfl rfl rfl rfl ⟨rfl, rfl⟩ (i) rfl z38 ?_
       refine ⟨⟨(i + 1, n * 10 + ((t[i].toNat : Int) - 48)), hlt, ?_, show (0 : Int) ≤ n * 10 + ((t[i].toNat : Int) - 48) by omega, show n * 10 + ((t[i].toNat : Int) - 48) < ((10 ^ (i + 1) : Nat) : Int) by omega⟩, ?_, by simp only; omega⟩
       · rw [i2, numG_step hlt, if_neg (by omega)]
       · refine weak_mk [] ?_ ?_ ?_ ?_ ?_ rfl rfl
         · exact zw17
         · exact zw0
         · exact zw17
         · exact zw5
         · repeat (first | exact trivial | refine ⟨.inl ⟨_, rfl, (by first | rfl | ((first | exact congrArg (fun z => SV.v (Value.int .i64 z)) hw | exact congrArg (fun z => SV.v (Value.int .i64 z)) hv)))⟩, ?_⟩ | refine ⟨.inr z128, ?_⟩)
     have hge : t.length ≤ i := by have := of_decide_eq_false gi; omega
     rw [List.drop_eq_nil_of_le hge] at i2
     have hMn : M = some (if nb = true then -n else n) := by rw [hG, i2]; rfl
     refine CaseB.mk (fun gn => ?_) (fun gn => ?_)
     · rw [hMn, gn]
       have hp := pow_le (show i ≤ 17 by omega)
       have e17 : 10 ^ 17 = 100000000000000000 := rfl
       have hw : IntKind.i64.wrap (0 - n) = -n := by rw [IntKind.wrap_i64]; omega
       exact retw [] (v := .tuple #[.int .i64 (IntKind.i64.wrap (0 - n)), .bool true]) ⟨by rw [hw]; rfl, rfl⟩ trivial rfl trivial (fun _ => rfl)
     · rw [hMn, gn]
       exact ret0 ⟨rfl, rfl⟩ (fun _ => rfl)
 obtain rfl : s = [] := List.eq_nil_of_length_eq_zero z78
 obtain rfl := hbad (.inl rfl)
 refine stop_slen tabOk rfl rfl rfl rfl rfl rfl ⟨rfl, rfl⟩ ?_
 refine CaseB.mk (fun g3 => ?_) (fun g3 => by simp at g3)
 exact ret0 ⟨rfl, rfl⟩ (fun _ => rfl)
set_option maxHeartbeats 4000000 in
set_option maxRecDepth 100000 in
theorem args_c (k : Int) (w : World) : Calls Tryz.prog 178 #[.int .i64 k] w (Ret w fun v L => v = .int .i64 (argsM k) ∧ L = []) := by
 refine calls1 Tryz.func178 rfl tabOk w _ rfl _ rfl [] trivial trivial _ (by decide) ?_
 repeat' (refine CaseB.mk (fun h => ?_) (fun h => ?_))
 all_goals
   simp only [beq_iff_eq, beq_eq_false_iff_ne] at *
   first
     | (exfalso; omega)
     | (refine ret0 ⟨?_, rfl⟩ (fun _ => rfl); simp [argsM, *])
set_option maxRecDepth 100000 in
theorem word_c (k : Int) (w : World) : Calls Tryz.prog 154 #[.int .i64 k] w (Ret w fun v L => v = .string (bs (wordM k)) ∧ L = []) := by
 refine calls1 Tryz.func154 rfl tabOk w _ rfl _ rfl [] trivial trivial _ (by decide) ?_
 refine AllSl.mk fun l => ?_
 refine CaseB.mk (fun h => ?_) (fun h => ?_)
 · have e : wordM k = [] := if_pos (.inl (by have := of_decide_eq_true h; omega))
   rw [e]
   exact ret0 ⟨rfl, rfl⟩ (fun _ => rfl)
 refine CaseB.mk (fun h2 => ?_) (fun h2 => ?_)
 · have e : wordM k = [] := if_pos (.inr (by have := of_decide_eq_true h2; omega))
   rw [e]
   exact ret0 ⟨rfl, rfl⟩ (fun _ => rfl)
 have h1 : 1 ≤ k := by have := of_decide_eq_false h; omega
 have h10 : k ≤ 10 := by have := of_decide_eq_false h2; omega
 obtain ⟨j, rfl⟩ : ∃ j : Nat, k = j := ⟨k.toNat, (Int.toNat_of_nonneg (by omega)).symm⟩
 have hj : j < wordsL.length := by show j < 11; omega
 have e : wordM (j : Int) = wordsL[j] := by rw [wordM, if_neg (by omega), Int.toNat_natCast, List.getD_eq_getElem?_getD, List.getElem?_eq_getElem hj]; rfl
 rw [e]
 refine stop_idx encTxt (xs := wordsL) tabOk rfl rfl rfl rfl rfl ⟨rfl, rfl⟩ (rdOwnAt 0 rfl) j rfl hj (fun ad => ?_)
 exact ret0 ⟨rfl, rfl⟩ (fun _ => rfl)
theorem rd_bytes {G : List Fct} (k : Nat) {old : Bool} {i : Sl} {e m : Nat} {cs : List Value} {s : Str} (hk : G[k]? = some (fOwn old i e 1 cs m)) (hm : m = s.length) (hc : cs = s.map fun b => .int .u8 (b.toNat : Int)) : ∀ w, (∀ f ∈ G, f.P w) → RdS w i 1 (s.map fun b => .int .u8 (b.toNat : Int)) s.length := by
 subst hm; subst hc; exact rdOwnAt k hk
theorem decG_step (f n : Nat) (out : Str) (h : 9 < n) : decG (f + 1) n out = decG f (n / 10) (UInt8.ofNat (48 + n % 10) :: out) := if_pos h
theorem digit (d : Nat) (h : d < 10) : IntKind.u8.wrap (IntKind.i64.wrap (48 + (d : Int))) = ((UInt8.ofNat (48 + d)).toNat : Int) := by
 have e : (UInt8.ofNat (48 + d)).toNat = 48 + d := by rw [UInt8.toNat_ofNat']; omega
 rw [e, wrap_nn (by omega) (by omega), IntKind.wrap_u8]; omega
set_option maxHeartbeats 4000000 in
set_option maxRecDepth 100000 in
theorem decN_c (n : Nat) (w : World) (hn : n < 1000000000000000000) : Calls Tryz.prog 177 #[.int .i64 (n : Int)] w (Ret w fun v L => v = .string (bs (decG 19 n [])) ∧ L = []) := by
 refine calls1 Tryz.func177 rfl tabOk w _ rfl _ rfl [] trivial trivial _ (by decide) ?_
 refine CaseB.mk (fun g => by have := of_decide_eq_true g; omega) (fun _ => ?_)
 refine CaseB.mk (fun g => by have := of_decide_eq_true g; omega) (fun _ => ?_)
 refine LoopW.mk ⟨{ q : Nat × Nat × Str // decG 19 n [] = decG q.1 q.2.1 q.2.2 ∧ q.2.1 < 10 ^ q.1 ∧ 1 ≤ q.1 ∧ q.2.2.length + q.1 ≤ 19 ∧ q.2.1 < 1000000000000000000 },
   fun q => .mk [(0, .v (.int .i64 (q.1.2.1 : Int))), (3, .v (.string (bs q.1.2.2)))] 0 0 [] [] [],
   fun q => q.1.1, ⟨(19, n, []), rfl, by show n < 10 ^ 19; omega, by show 1 ≤ 19; omega, by simp, hn⟩, ?_, ?_⟩
 · exact weak_mk [] zw2 zw0 zw2 zw5 zw4 rfl rfl
 rintro ⟨⟨f, m, out⟩, i1, i2, i3, i4, i5⟩
 simp only at i1 i2 i3 i4 i5 ⊢
 apply CaseB.mk <;> intro g
 · have h9 : 9 < m := by have := of_decide_eq_true g; omega
   obtain ⟨f, rfl⟩ : ∃ f', f = f' + 1 := ⟨f - 1, by omega⟩
   have hp : 10 ^ (f + 1) = 10 ^ f * 10 := Nat.pow_succ ..
   have hf : 1 ≤ f := by
     rcases Nat.eq_zero_or_pos f with h | h
     · subst h; simp at i2; omega
     · exact h
   refine stop_bin rfl rfl rfl ⟨rfl, rfl⟩ (.int .i64 ((m % 10 : Nat) : Int)) (fun w => eqGuard_int w) (fun w => rem_run (by omega) (by rw [Int.tmod_eq_emod_of_nonneg (by omega)]; omega) w) ?_
   refine AllSl.mk fun b => ?_
   refine stop_b2s (s := [UInt8.ofNat (48 + m % 10)]) tabOk rfl rfl rfl rfl rfl ⟨rfl, rfl⟩ (rd_bytes 0 rfl rfl (by rw [digit (m % 10) (by omega)]; rfl)) (Nat.zero_lt_one) ?_
   refine stop_bin rfl rfl rfl ⟨rfl, rfl⟩ (.string (bs ([UInt8.ofNat (48 + m % 10)] ++ out))) (fun w => eqGuard_str w) (fun w => sadd_run z52 w) ?_
   refine stop_bin rfl rfl rfl ⟨rfl, rfl⟩ (.int .i64 ((m / 10 : Nat) : Int)) (fun w => eqGuard_int w) (fun w => quo_run (by omega) (by rw [Int.tdiv_eq_ediv_of_nonneg (by omega), wrap_nn (by omega) (by omega)]; omega) w) ?_
   refine ⟨⟨(f, m / 10, UInt8.ofNat (48 + m % 10) :: out), i1.trans (decG_step f m out h9), show m / 10 < 10 ^ f by omega, hf, by simp only [List.length_cons]; omega, show m / 10 < 1000000000000000000 by omega⟩, ?_, by simp only; omega⟩
   exact weak_mk [] zw2 zw0 zw2 zw5 zw4 rfl rfl
 have h9 : m ≤ 9 := by have := of_decide_eq_false g; omega
 obtain ⟨f, rfl⟩ : ∃ f', f = f' + 1 := ⟨f - 1, by omega⟩
 refine AllSl.mk fun b => ?_
 refine stop_b2s (s := [UInt8.ofNat (48 + m)]) tabOk rfl rfl rfl rfl rfl ⟨rfl, rfl⟩ (rd_bytes 0 rfl rfl (by rw [digit m (by omega)]; rfl)) (Nat.zero_lt_one) ?_
 refine stop_bin rfl rfl rfl ⟨rfl, rfl⟩ (.string (bs ([UInt8.ofNat (48 + m)] ++ out))) (fun w => eqGuard_str w) (fun w => sadd_run z52 w) ?_
 have e : decG 19 n [] = [UInt8.ofNat (48 + m)] ++ out := by rw [i1, decG, if_neg (by omega)]; rfl
 rw [e]
 exact ret0 ⟨rfl, rfl⟩ (fun _ => rfl)
set_option maxRecDepth 100000 in
theorem dec_c (n : Int) (w : World) (h1 : -1000000000000000000 < n) (h2 : n < 1000000000000000000) : Calls Tryz.prog 177 #[.int .i64 n] w (Ret w fun v L => v = .string (bs (decM n)) ∧ L = []) := by
 by_cases hn : 0 ≤ n
 · obtain ⟨k, rfl⟩ : ∃ k : Nat, n = k := ⟨n.toNat, (Int.toNat_of_nonneg hn).symm⟩
   have e : decM (k : Int) = decG 19 k [] := by rw [decM, if_neg (by omega)]; rfl
   rw [e]
   exact decN_c k w (by omega)
 obtain ⟨k, rfl⟩ : ∃ k : Nat, n = -(k : Int) := ⟨(-n).toNat, by omega⟩
 have e : decM (-(k : Int)) = [45] ++ decG 19 k [] := by
   rw [decM, if_pos (by omega), show (-(k : Int)).natAbs = k by omega]; rfl
 rw [e]
 have hw : IntKind.i64.wrap (0 - -(k : Int)) = (k : Int) := by rw [wrap_nn] <;> omega
 refine calls1 Tryz.func177 rfl tabOk w _ rfl _ rfl [] trivial trivial _ (by decide) ?_
 refine CaseB.mk (fun g => by have := of_decide_eq_true g; omega) (fun _ => ?_)
 refine CaseB.mk (fun g => ?_) (fun g => by have := of_decide_eq_false g; omega)
 refine stop_call _ cl177 rfl rfl rfl rfl ⟨rfl, rfl⟩ (fun A w hW => (by rw [hw]; exact decN_c k w (by omega))) ?_
 rintro v L ⟨rfl, rfl⟩
 have hl := decG_len 19 k []
 refine stop_bin rfl rfl rfl ⟨rfl, rfl⟩ (.string (bs ([45] ++ (decG 19 k [])))) (fun w => eqGuard_str w) (fun w => sadd_run (by simp only [List.length_cons, List.length_nil] at hl ⊢; omega) w) ?_
 exact ret0 ⟨rfl, rfl⟩ (fun _ => rfl)
theorem argsM_012 (k : Int) : argsM k = 0 ∨ argsM k = 1 ∨ argsM k = 2 := by
 unfold argsM
 split
 · exact .inr (.inl rfl)
 · split
   · exact .inl rfl
   · exact .inr (.inr rfl)
theorem len_one {ns : List Int} (h : ns.length = 1) : ∃ a, ns = [a] := by
 match ns, h with
 | [a], _ => exact ⟨a, rfl⟩
theorem len_two {ns : List Int} (h : ns.length = 2) : ∃ a b, ns = [a, b] := by
 match ns, h with
 | [a, b], _ => exact ⟨a, b, rfl⟩
theorem makeM_len {k : Int} {ns : List Int} (h : (argsM k = 0 ∨ argsM k = 1) → ns.length ≠ 1) (h2 : argsM k = 2 → ns.length ≠ 2) : makeM k ns = none := by
 unfold makeM
 rcases argsM_012 k with e | e | e
 · rw [if_pos e]
   split
   · exact (h (.inl e) rfl).elim
   · rfl
 · rw [if_neg (by omega), if_pos e]
   split
   · exact (h (.inr e) rfl).elim
   · rfl
 · rw [if_neg (by omega), if_neg (by omega)]
   split
   · exact (h2 e rfl).elim
   · rfl
set_option maxHeartbeats 4000000 in
set_option maxRecDepth 100000 in
theorem make_c (k : Int) (i : Sl) (ns : List Int) (w : World) (h : At w [slo i cInt 1 ns]) :
   Calls Tryz.prog 176 #[.int .i64 k, i.val ns.length] w (Ret w fun v L => v = .tuple #[.agg (cOp ((makeM k ns).getD Op0)).toArray, .bool (makeM k ns).isSome] ∧ L = []) := by
 refine calls2 Tryz.func176 rfl tabOk w _ rfl _ rfl _ h ⟨rfl, rfl, trivial⟩ _ _ (by decide) ?_
 refine stop_call _ cl178 rfl rfl rfl rfl ⟨rfl, rfl⟩ (fun A w hW => (args_c k w)) ?_
 rintro v L ⟨rfl, rfl⟩
 apply CaseB.mk <;> intro g
 · have a0 : argsM k = 0 := by simpa using g
   refine CaseB.mk (fun g2 => ?_) (fun g2 => ?_)
   · obtain ⟨a, rfl⟩ := len_one (ns := ns) (by have g' : (ns.length : Int) = 1 := z87; omega)
     refine stop_idx encInt tabOk rfl rfl rfl rfl rfl ⟨rfl, rfl⟩ z30 0 rfl z38 (fun ad => ?_)
     have e : makeM k [a] = some ⟨k, 0, a⟩ := by rw [makeM, if_pos a0]
     rw [e]
     exact ret0 ⟨rfl, rfl⟩ (fun _ => rfl)
   have hl : ns.length ≠ 1 := fun h => by rw [h] at g2; simp at g2
   rw [makeM_len (fun _ => hl) (fun e => by omega)]
   refine stop_call _ cl178 rfl rfl rfl rfl ⟨rfl, rfl⟩ (fun A w hW => (args_c k w)) ?_
   rintro v L ⟨rfl, rfl⟩
   refine CaseB.mk (fun g3 => by rw [a0] at g3; simp at g3) (fun _ => ?_)
   refine stop_call _ cl178 rfl rfl rfl rfl ⟨rfl, rfl⟩ (fun A w hW => (args_c k w)) ?_
   rintro v L ⟨rfl, rfl⟩
   refine CaseB.mk (fun g3 => by rw [a0] at g3; simp at g3) (fun _ => ?_)
   exact ret0 ⟨rfl, rfl⟩ (fun _ => rfl)
 have n0 : ¬ argsM k = 0 := by simpa using g
 refine stop_call _ cl178 rfl rfl rfl rfl ⟨rfl, rfl⟩ (fun A w hW => (args_c k w)) ?_
 rintro v L ⟨rfl, rfl⟩
 apply CaseB.mk <;> intro g
 · have a0 : argsM k = 1 := by simpa using g
   refine CaseB.mk (fun g2 => ?_) (fun g2 => ?_)
   · obtain ⟨a, rfl⟩ := len_one (ns := ns) (by have g' : (ns.length : Int) = 1 := z87; omega)
     refine stop_idx encInt tabOk rfl rfl rfl rfl rfl ⟨rfl, rfl⟩ z30 0 rfl z38 (fun ad => ?_)
     have e : makeM k [a] = some ⟨k, a, 0⟩ := by rw [makeM, if_neg n0, if_pos a0]
     rw [e]
     exact ret0 ⟨rfl, rfl⟩ (fun _ => rfl)
   have hl : ns.length ≠ 1 := fun h => by rw [h] at g2; simp at g2
   rw [makeM_len (fun _ => hl) (fun e => by omega)]
   refine stop_call _ cl178 rfl rfl rfl rfl ⟨rfl, rfl⟩ (fun A w hW => (args_c k w)) ?_
   rintro v L ⟨rfl, rfl⟩
   refine CaseB.mk (fun g3 => by rw [a0] at g3; simp at g3) (fun _ => ?_)
   exact ret0 ⟨rfl, rfl⟩ (fun _ => rfl)
 have n1 : ¬ argsM k = 1 := by simpa using g
 have a2 : argsM k = 2 := by have := argsM_012 k; omega
 refine stop_call _ cl178 rfl rfl rfl rfl ⟨rfl, rfl⟩ (fun A w hW => (args_c k w)) ?_
 rintro v L ⟨rfl, rfl⟩
 refine CaseB.mk (fun g => ?_) (fun g => by rw [a2] at g; simp at g)
 refine CaseB.mk (fun g2 => ?_) (fun g2 => ?_)
 · obtain ⟨a, b, rfl⟩ := len_two (ns := ns) (by have g' : (ns.length : Int) = 2 := z87; omega)
   refine stop_idx encInt tabOk rfl rfl rfl rfl rfl ⟨rfl, rfl⟩ z30 0 rfl z38 (fun ad => ?_)
   refine stop_idx encInt tabOk rfl rfl rfl rfl rfl ⟨rfl, rfl⟩ z30 1 rfl z38 (fun ad => ?_)
   have e : makeM k [a, b] = some ⟨k, a, b⟩ := by rw [makeM, if_neg n0, if_neg n1]
   rw [e]
   exact ret0 ⟨rfl, rfl⟩ (fun _ => rfl)
 have hl : ns.length ≠ 2 := fun h => by rw [h] at g2; simp at g2
 rw [makeM_len (fun e => by omega) (fun _ => hl)]
 exact ret0 ⟨rfl, rfl⟩ (fun _ => rfl)
def Op.near (o : Op) : Prop := -1000000000000000000 < o.on ∧ o.on < 1000000000000000000 ∧ -1000000000000000000 < o.arg ∧ o.arg < 1000000000000000000
set_option maxHeartbeats 4000000 in
set_option maxRecDepth 100000 in
theorem fmtOp_c (o : Op) (w : World) (hn : o.near) :
   Calls Tryz.prog 174 #[.agg (cOp o).toArray] w (Ret w fun v L => v = .string (bs (fmtOpM o)) ∧ L = []) := by
 obtain ⟨h1, h2, h3, h4⟩ := hn
 have lw := wordM_len o.kind
 have l1 := decM_len o.on
 have l2 := decM_len o.arg
 refine calls1 Tryz.func174 rfl tabOk w _ rfl _ rfl [] trivial trivial _ (by decide) ?_
 refine stop_call _ cl154 rfl rfl rfl rfl ⟨rfl, rfl⟩ (fun A w hW => (word_c o.kind w)) ?_
 rintro v L ⟨rfl, rfl⟩
 refine stop_bin rfl rfl rfl ⟨rfl, rfl⟩ (.bool ((wordM o.kind) == [])) (fun w => eqGuard_str w) (fun w => seq_run w) ?_
 apply CaseB.mk <;> intro g
 · have e : fmtOpM o = [] := if_pos z91
   rw [e]
   exact ret0 ⟨rfl, rfl⟩ (fun _ => rfl)
 have e0 : wordM o.kind ≠ [] := by simpa using g
 refine stop_call _ cl178 rfl rfl rfl rfl ⟨rfl, rfl⟩ (fun A w hW => (args_c o.kind w)) ?_
 rintro v L ⟨rfl, rfl⟩
 apply CaseB.mk <;> intro g
 · have a0 : argsM o.kind = 0 := by simpa using g
   refine stop_bin rfl rfl rfl ⟨rfl, rfl⟩ (.string (bs ((wordM o.kind) ++ [32]))) (fun w => eqGuard_str w) (fun w => sadd_run z71 w) ?_
   refine stop_call _ cl177 rfl rfl rfl rfl ⟨rfl, rfl⟩ (fun A w hW => (dec_c o.arg w h3 h4)) ?_
   rintro v L ⟨rfl, rfl⟩
   refine stop_bin rfl rfl rfl ⟨rfl, rfl⟩ (.string (bs ((wordM o.kind ++ [32]) ++ (decM o.arg)))) (fun w => eqGuard_str w) (fun w => sadd_run z52 w) ?_
   have e : fmtOpM o = (wordM o.kind ++ [32]) ++ decM o.arg := by rw [fmtOpM, if_neg e0, if_pos a0]
   rw [e]
   exact ret0 ⟨rfl, rfl⟩ (fun _ => rfl)
 have n0 : ¬ argsM o.kind = 0 := by simpa using g
 refine stop_call _ cl178 rfl rfl rfl rfl ⟨rfl, rfl⟩ (fun A w hW => (args_c o.kind w)) ?_
 rintro v L ⟨rfl, rfl⟩
 apply CaseB.mk <;> intro g
 · have a1 : argsM o.kind = 1 := by simpa using g
   refine stop_bin rfl rfl rfl ⟨rfl, rfl⟩ (.string (bs ((wordM o.kind) ++ [32]))) (fun w => eqGuard_str w) (fun w => sadd_run z71 w) ?_
   refine stop_call _ cl177 rfl rfl rfl rfl ⟨rfl, rfl⟩ (fun A w hW => (dec_c o.on w h1 h2)) ?_
   rintro v L ⟨rfl, rfl⟩
   refine stop_bin rfl rfl rfl ⟨rfl, rfl⟩ (.string (bs ((wordM o.kind ++ [32]) ++ (decM o.on)))) (fun w => eqGuard_str w) (fun w => sadd_run z52 w) ?_
   have e : fmtOpM o = (wordM o.kind ++ [32]) ++ decM o.on := by rw [fmtOpM, if_neg e0, if_neg n0, if_pos a1]
   rw [e]
   exact ret0 ⟨rfl, rfl⟩ (fun _ => rfl)
 have n1 : ¬ argsM o.kind = 1 := by simpa using g
 have e : fmtOpM o = (((wordM o.kind ++ [32]) ++ decM o.on) ++ [32]) ++ decM o.arg := by rw [fmtOpM, if_neg e0, if_neg n0, if_neg n1]
 rw [e]
 refine draw_start tabOk z95 z95 z95 200 [((0, 1), .v (.int .i64 o.on)), ((0, 2), .v (.int .i64 o.arg))] [] [] z124 z134 trivial rfl ?_
 refine d_bin rfl rfl rfl ⟨rfl, rfl⟩ (.string (bs ((wordM o.kind) ++ [32]))) (fun w => eqGuard_str w) (fun w => sadd_run z71 w) ?_
 refine d_call _ cl177 rfl rfl rfl rfl ⟨rfl, rfl⟩ (fun A w hW => (dec_c o.on w h1 h2)) ?_
 rintro v L ⟨rfl, rfl⟩
 refine d_bin rfl rfl rfl ⟨rfl, rfl⟩ (.string (bs ((wordM o.kind ++ [32]) ++ (decM o.on)))) (fun w => eqGuard_str w) (fun w => sadd_run z52 w) ?_
 refine d_bin rfl rfl rfl ⟨rfl, rfl⟩ (.string (bs (((wordM o.kind ++ [32]) ++ decM o.on) ++ [32]))) (fun w => eqGuard_str w) (fun w => sadd_run z52 w) ?_
 refine d_call _ cl177 rfl rfl rfl rfl ⟨rfl, rfl⟩ (fun A w hW => (dec_c o.arg w h3 h4)) ?_
 rintro v L ⟨rfl, rfl⟩
 refine d_bin rfl rfl rfl ⟨rfl, rfl⟩ (.string (bs ((((wordM o.kind ++ [32]) ++ decM o.on) ++ [32]) ++ (decM o.arg)))) (fun w => eqGuard_str w) (fun w => sadd_run z52 w) ?_
 exact ret0 ⟨rfl, rfl⟩ (fun _ => rfl)
theorem numG_near : ∀ (s : Str) (n m : Int) (k : Nat), 0 ≤ n → n < ((10 ^ k : Nat) : Int) → numG n s = some m → 0 ≤ m ∧ m < ((10 ^ (k + s.length) : Nat) : Int)
 | [], n, m, k, h0, h1, h => by simp only [numG, Option.some.injEq] at h; subst h; exact ⟨h0, h1⟩
 | x :: r, n, m, k, h0, h1, h => by
   simp only [numG] at h
   split at h
   · cases h
   · have hp : 10 ^ (k + 1) = 10 ^ k * 10 := Nat.pow_succ ..
     have := numG_near r (n * 10 + ((x.toNat : Int) - 48)) m (k + 1) (by omega) (by omega) h
     rw [show k + (x :: r).length = k + 1 + r.length by simp only [List.length_cons]; omega]
     exact this
def nearN (n : Int) : Prop := -1000000000000000000 < n ∧ n < 1000000000000000000
theorem numM_near {s : Str} {n : Int} (h : numM s = some n) : nearN n := by
 unfold numM at h
 split at h
 · cases h
 · rename_i hb
   have hl : (unNeg s).length ≤ 17 := Nat.le_of_not_lt fun h => hb (.inr (.inl h))
   cases e : numG 0 (unNeg s) with
   | none => rw [e] at h; cases h
   | some m =>
     rw [e] at h
     have h2 := numG_near _ 0 m 0 (by omega) (by decide) e
     have hp := pow_le (show 0 + (unNeg s).length ≤ 17 by omega)
     have e17 : 10 ^ 17 = 100000000000000000 := rfl
     simp only [Option.map_some, Option.some.injEq] at h
     subst h
     unfold nearN
     split <;> omega
theorem makeM_near {k : Int} {ns : List Int} {o : Op} (hn : ∀ x ∈ ns, nearN x) (h : makeM k ns = some o) : o.near := by
 have z : nearN 0 := ⟨by decide, by decide⟩
 unfold makeM at h
 split at h
 · split at h
   · rename_i a; cases h; have := hn a (by simp); exact ⟨z.1, z.2, this.1, this.2⟩
   · cases h
 · split at h
   · split at h
     · rename_i a; cases h; have := hn a (by simp); exact ⟨this.1, this.2, z.1, z.2⟩
     · cases h
   · split at h
     · rename_i a b; cases h; have h1 := hn a (by simp); have h2 := hn b (by simp); exact ⟨h1.1, h1.2, h2.1, h2.2⟩
     · cases h
theorem kindM_step (t w : Str) (ns : List Int) (f k : Nat) : kindM t w ns (f + 1) k = if wordM k = w then match makeM k ns with | some o => if fmtOpM o = t then some o else kindM t w ns f (k + 1) | none => kindM t w ns f (k + 1) else kindM t w ns f (k + 1) := rfl
theorem numsM_at {s : Str} {r : List Str} : numsM (s :: r) = match numM s with | none => none | some n => match numsM r with | none => none | some l => some (n :: l) := rfl
def behind (ns : List Int) (o : Option (List Int)) : Option (List Int) := match o with | none => none | some l => some (ns ++ l)
theorem behind_some {ns : List Int} {s : Str} {r : List Str} {n : Int} (h : numM s = some n) : behind ns (numsM (s :: r)) = behind (ns ++ [n]) (numsM r) := by
 rw [numsM_at, h]
 cases numsM r with
 | none => rfl
 | some l => simp [behind]
theorem behind_none {ns : List Int} {s : Str} {r : List Str} (h : numM s = none) : behind ns (numsM (s :: r)) = none := by
 rw [numsM_at, h]; rfl
theorem drop_take {α : Type} {xs : List α} {i m : Nat} (h : i < xs.length) : (xs.drop i).take (m + 1) = xs[i] :: (xs.drop (i + 1)).take m := by
 rw [List.drop_eq_getElem_cons h, List.take_succ_cons]
set_option maxHeartbeats 8000000 in
set_option maxRecDepth 100000 in
theorem parseOp_c (t : Str) (w : World) (hb : t.length ≤ 1000) :
   Calls Tryz.prog 172 #[.string (bs t)] w (Ret w fun v L => v = .tuple #[.agg (cOp ((parseOpM t).getD Op0)).toArray, .bool (parseOpM t).isSome] ∧ L = []) := by
 have hcl := cutM_len 32 t
 have hpt : ∀ x ∈ cutM 32 t, x.length ≤ 1000 := fun x hx => Nat.le_trans (cutM_part hx) hb
 have hno : numsM (((cutM 32 t).drop 1).take 3) = none → parseOpM t = none := fun h => by rw [parseOpM, h]
 have hyes : ∀ ns, numsM (((cutM 32 t).drop 1).take 3) = some ns → parseOpM t = if ns.length + 1 = (cutM 32 t).length then kindM t ((cutM 32 t).headD []) ns 10 1 else none := fun ns h => by rw [parseOpM, h]
 generalize parseOpM t = M at hno hyes ⊢
 refine calls1 Tryz.func172 rfl tabOk w _ rfl _ rfl [] trivial trivial _ (by decide) ?_
 refine stop_call _ cl161 rfl rfl rfl rfl ⟨rfl, rfl⟩ (fun A w hW => (cut_c t 32 w (by omega))) ?_
 rintro v L ⟨y, rfl, rfl⟩
 generalize cutM 32 t = ps at hcl hpt hno hyes ⊢
 refine AllSl.mk fun l0 => ?_
 refine LoopW.mk ⟨{ q : Nat × Sl × List Int // 1 ≤ q.1 ∧ q.1 ≤ 4 ∧ q.1 ≤ ps.length ∧ numsM ((ps.drop 1).take 3) = behind q.2.2 (numsM ((ps.drop q.1).take (4 - q.1))) ∧ q.2.2.length + 1 = q.1 ∧ ∀ x ∈ q.2.2, nearN x },
   fun q => .mk [(0, .v (.string (bs t))), (2, .p 0 0), (4, .v (y.val ps.length)), (5, .v (q.1.2.1.val q.1.2.2.length)), (6, .v (.int .i64 (q.1.1 : Int)))] 1 0 [(0, 44, 3)] [] [own q.1.2.1 3 cInt 1 q.1.2.2, own y 9 cTxt 1 ps],
   fun q => 4 - q.1.1, ⟨(1, l0, []), Nat.le_refl _, by show 1 ≤ 4; omega, hcl.1, by simp only [behind, List.nil_append]; cases numsM ((ps.drop 1).take (4 - 1)) <;> rfl, rfl, by simp⟩, ?_, ?_⟩
 · exact weak_mk [0, 1] zw2 zw0 zw2 zw5 zw4 rfl rfl
 rintro ⟨⟨i, z, ns⟩, i1, i2, i3, i4, i5, i6⟩
 simp only at i1 i2 i3 i4 i5 i6 ⊢
 apply CaseB.mk <;> intro g
 refine CaseB.mk (fun g2 => ?_) (fun g2 => ?_)
 · have hlt : i < ps.length := by have := of_decide_eq_true g; omega
   have h4 : i < 4 := by have := of_decide_eq_true g2; omega
   have hw := e_succ i _ hlt (by omega)
   obtain ⟨m, hm⟩ : ∃ m, 4 - i = m + 1 := ⟨3 - i, by omega⟩
   have hd : (ps.drop i).take (4 - i) = ps[i] :: (ps.drop (i + 1)).take (4 - (i + 1)) := by rw [hm, drop_take hlt, show 4 - (i + 1) = m by omega]
   rw [hd] at i4
   refine stop_idx encTxt tabOk rfl rfl rfl rfl rfl ⟨rfl, rfl⟩ (rdOwnAt 1 rfl) i rfl z38 (fun ad => ?_)
   obtain ⟨pt, hpe⟩ : ∃ pt, pt = ps[i] := ⟨_, rfl⟩
   have hpl : pt.length ≤ 1000 := by rw [hpe]; exact hpt _ (List.getElem_mem hlt)
   rw [← hpe] at i4 ⊢
   refine stop_call _ cl171 rfl rfl rfl rfl ⟨rfl, rfl⟩ (fun A w hW => (snum_c pt w (by omega))) ?_
   rintro v L ⟨rfl, rfl⟩
   cases hn : numM pt with
   | none =>
     refine CaseB.mk (fun g3 => ?_) (fun g3 => by simp at g3)
     obtain rfl := hno (i4.trans (behind_none hn))
     exact ret0 ⟨rfl, rfl⟩ (fun _ => rfl)
   | some n =>
     refine CaseB.mk (fun g3 => by simp at g3) (fun g3 => ?_)
     refine AllSl.mk fun b3 => ?_
     refine stop_app encInt 1 tabOk (xs := ns) (ys := [n]) rfl rfl rfl rfl rfl rfl rfl rfl rfl (by decide) ⟨rfl, rfl⟩ rfl z30 z38 z38 (fun z3 => ?_)
     refine ⟨⟨(i + 1, z3, ns ++ [n]), show 1 ≤ i + 1 by omega, h4, hlt, i4.trans (behind_some hn), by simp; omega, fun x hx => ?_⟩, ?_, by simp only; omega⟩
     · rcases List.mem_append.1 hx with hx | hx
       · exact i6 x hx
       · simp only [List.mem_singleton] at hx; subst hx; exact numM_near hn
     · exact weak_mk [0, 2] zw1 zw0 zw1 zw5 zw3 rfl rfl
 have hfin : numsM ((ps.drop 1).take 3) = some ns := by
   rw [i4, show 4 - i = 0 by have := of_decide_eq_false g2; omega, List.take_zero]
   simp [numsM, behind]
 rotate_left
 have hfin : numsM ((ps.drop 1).take 3) = some ns := by
   rw [i4, List.drop_eq_nil_of_le z78, List.take_nil]
   simp [numsM, behind]
 rotate_left
 all_goals
   have hM := hyes ns hfin
   clear hno hyes hfin i4
   refine LoopW.mk ⟨{ q : Nat // 1 ≤ q ∧ q ≤ 11 ∧ (ns.length + 1 = ps.length → M = kindM t (ps.headD []) ns (11 - q) q) },
     fun q => .mk [(0, .v (.string (bs t))), (2, .p 0 0), (4, .v (y.val ps.length)), (5, .v (z.val ns.length)), (9, .v (.int .i64 (q.1 : Int)))] 1 0 [(0, 44, 3)] [] [own z 3 cInt 1 ns, own y 9 cTxt 1 ps],
     fun q => 11 - q.1, ⟨1, Nat.le_refl _, by decide, fun h => by rw [hM, if_pos h]⟩, ?_, ?_⟩
   · exact weak_mk [0, 1] zw2 zw0 zw2 zw5 zw4 rfl rfl
   rintro ⟨k, k1, k2, k3⟩
   simp only at k1 k2 k3 ⊢
   have hw1 : IntKind.i64.wrap ((ps.length : Int) - 1) = (ps.length : Int) - 1 := wrap_nn (by omega) (by omega)
   refine CaseB.mk (fun h => ?_) (fun h => ?_)
   · have hk : k ≤ 10 := by have := of_decide_eq_true h; omega
     have hw := e_succ k 11 (by omega) (by omega)
     refine CaseB.mk (fun h2 => ?_) (fun h2 => ?_)
     · have he : ns.length + 1 = ps.length := by rw [hw1] at h2; have h2' : (ns.length : Int) = (ps.length : Int) - 1 := (by simpa using h2); omega
       have hp0 : 0 < ps.length := by omega
       have hhd : ps.headD [] = ps[0] := by
         cases ps with
         | nil => simp at hp0
         | cons a r => rfl
       have hst := k3 he
       rw [show 11 - k = (11 - (k + 1)) + 1 by omega, kindM_step, hhd] at hst
       rw [hhd] at k3
       obtain ⟨wd, hwd⟩ : ∃ wd, wd = ps[0] := ⟨_, rfl⟩
       rw [← hwd] at hst k3
       refine draw_start tabOk z95 z95 z95 200 [] [1] [_] trivial trivial ⟨rfl, trivial⟩ rfl ?_
       refine d_idx (ti := tiOf tab) encTxt tabOk rfl rfl rfl rfl rfl ⟨rfl, rfl⟩ z30 0 rfl z38 (fun ad => ?_)
       rw [← hwd]
       refine d_call _ cl154 rfl rfl rfl rfl ⟨rfl, rfl⟩ (fun A w hW => (word_c (k : Int) w)) ?_
       rintro v L ⟨rfl, rfl⟩
       refine d_bin rfl rfl rfl ⟨rfl, rfl⟩ (.bool ((wordM (k : Int)) != wd)) (fun w => eqGuard_str w) (fun w => sne_run w) ?_
       have hgo : ∀ hst2 : M = kindM t wd ns (11 - (k + 1)) (k + 1), 1 ≤ k + 1 ∧ k + 1 ≤ 11 ∧ (ns.length + 1 = ps.length → M = kindM t (ps.headD []) ns (11 - (k + 1)) (k + 1)) := fun e => ⟨by omega, by omega, fun _ => by rw [hhd, ← hwd]; exact e⟩
       refine CaseB.mk (fun h3 => ?_) (fun h3 => ?_)
       · have e : ¬ wordM (k : Int) = wd := by simpa using h3
         rw [if_neg e] at hst
         refine ⟨⟨k + 1, hgo hst⟩, ?_, by simp only; omega⟩
         exact weak_mk [0, 1] zw1 zw0 zw1 zw5 zw3 rfl rfl
       have e : wordM (k : Int) = wd := by simpa using h3
       rw [if_pos e] at hst
       refine stop_call _ cl176 rfl rfl rfl rfl ⟨rfl, rfl⟩ (fun A w hW => (make_c (k : Int) z ns w ⟨hW.rdOwn 0 rfl, trivial⟩)) ?_
       rintro v L ⟨rfl, rfl⟩
       cases hm : makeM (k : Int) ns with
       | none =>
         rw [hm] at hst
         refine CaseB.mk (fun h4 => by simp at h4) (fun h4 => ?_)
         refine ⟨⟨k + 1, hgo hst⟩, ?_, by simp only; omega⟩
         exact weak_mk [0, 1] zw1 zw0 zw1 zw5 zw3 rfl rfl
       | some o =>
         rw [hm] at hst
         simp only at hst
         refine CaseB.mk (fun h4 => ?_) (fun h4 => by simp at h4)
         refine stop_call _ cl174 rfl rfl rfl rfl ⟨rfl, rfl⟩ (fun A w hW => (fmtOp_c o w (makeM_near i6 hm))) ?_
         rintro v L ⟨rfl, rfl⟩
         refine stop_bin rfl rfl rfl ⟨rfl, rfl⟩ (.bool ((fmtOpM o) == t)) (fun w => eqGuard_str w) (fun w => seq_run w) ?_
         refine CaseB.mk (fun h5 => ?_) (fun h5 => ?_)
         · have e5 : fmtOpM o = t := by simpa using h5
           rw [if_pos e5] at hst
           rw [hst]
           exact ret0 ⟨rfl, rfl⟩ (fun _ => rfl)
         have e5 : ¬ fmtOpM o = t := by simpa using h5
         rw [if_neg e5] at hst
         refine ⟨⟨k + 1, hgo hst⟩, ?_, by simp only; omega⟩
         exact weak_mk [0, 1] zw1 zw0 zw1 zw5 zw3 rfl rfl
     have hn : ¬ ns.length + 1 = ps.length := fun e => by rw [hw1] at h2; have h2' : ¬ (ns.length : Int) = (ps.length : Int) - 1 := (by simpa using h2); omega
     rw [if_neg hn] at hM
     rw [hM]
     exact ret0 ⟨rfl, rfl⟩ (fun _ => rfl)
   have hk : k = 11 := by have := of_decide_eq_false h; omega
   subst hk
   have hMn : M = none := by
     by_cases he : ns.length + 1 = ps.length
     · exact k3 he
     · rw [hM, if_neg he]
   rw [hMn]
   exact ret0 ⟨rfl, rfl⟩ (fun _ => rfl)
theorem fmtNums_at {out : Str} {l : List Int} {k : Nat} (h : k < l.length) : fmtNums out (l.drop k) = fmtNums ((out ++ [32]) ++ decM l[k]) (l.drop (k + 1)) := by
 rw [List.drop_eq_getElem_cons h, fmtNums]
theorem fmtNums_len : ∀ (l : List Int) (out : Str), (fmtNums out l).length ≤ out.length + 21 * l.length
 | [], out => by simp [fmtNums]
 | x :: r, out => by
   have h := fmtNums_len r ((out ++ [32]) ++ decM x)
   have h2 := decM_len x
   simp only [fmtNums, List.length_append, List.length_cons, List.length_nil] at h ⊢
   omega
theorem listM_len (wd : Str) (l : List Int) : (listM wd l).length ≤ wd.length + 21 * l.length + 1 := by
 have h := fmtNums_len l wd
 unfold listM
 split
 · simp
 · simp only [List.length_append, List.length_cons, List.length_nil]; omega
set_option maxHeartbeats 4000000 in
set_option maxRecDepth 100000 in
theorem list_c (wd : Str) (i : Sl) (l : List Int) (w : World) (h : At w [slo i cInt 1 l]) (hw : wd.length ≤ 1000) (hl : l.length ≤ 1000) (hn : ∀ x ∈ l, nearN x) :
   Calls Tryz.prog 173 #[.string (bs wd), i.val l.length] w (Ret w fun v L => v = .string (bs (listM wd l)) ∧ L = []) := by
 refine calls2 Tryz.func173 rfl tabOk w _ rfl _ rfl _ h ⟨rfl, rfl, trivial⟩ _ _ (by decide) ?_
 apply CaseB.mk <;> intro g
 · have e : l = [] := List.eq_nil_of_length_eq_zero (by have g' : (l.length : Int) = 0 := z91; omega)
   rw [show listM wd l = [] from if_pos e]
   exact ret0 ⟨rfl, rfl⟩ (fun _ => rfl)
 have e : ¬ l = [] := fun e => by rw [e] at g; simp at g
 rw [show listM wd l = fmtNums wd l ++ [10] from if_neg e]
 refine LoopW.mk ⟨{ q : Nat × Str // q.1 ≤ l.length ∧ fmtNums wd l = fmtNums q.2 (l.drop q.1) ∧ q.2.length ≤ 1000 + 21 * q.1 },
   fun q => .mk [(1, .v (i.val l.length)), (5, .v (.string (bs q.1.2))), (6, .v (.int .i64 (q.1.1 : Int)))] 0 0 [] [] [slo i cInt 1 l],
   fun q => l.length - q.1.1, ⟨(0, wd), Nat.zero_le _, rfl, by simpa using hw⟩, ?_, ?_⟩
 · exact weak_mk [0] zw2 zw0 zw2 zw5 zw4 rfl rfl
 rintro ⟨⟨k, out⟩, i1, i2, i3⟩
 simp only at i1 i2 i3 ⊢
 apply CaseB.mk <;> intro g
 · have hlt : k < l.length := by have := of_decide_eq_true g; omega
   have hw2 := e_succ k _ hlt (by omega)
   have hd := decM_len l[k]
   have hnk := hn _ (List.getElem_mem hlt)
   refine stop_bin rfl rfl rfl ⟨rfl, rfl⟩ (.string (bs (out ++ [32]))) (fun w => eqGuard_str w) (fun w => sadd_run z52 w) ?_
   refine stop_idx encInt tabOk rfl rfl rfl rfl rfl ⟨rfl, rfl⟩ z30 k rfl z38 (fun ad => ?_)
   refine stop_call _ cl177 rfl rfl rfl rfl ⟨rfl, rfl⟩ (fun A w hW => (dec_c _ w hnk.1 hnk.2)) ?_
   rintro v L ⟨rfl, rfl⟩
   refine stop_bin rfl rfl rfl ⟨rfl, rfl⟩ (.string (bs ((out ++ [32]) ++ (decM l[k])))) (fun w => eqGuard_str w) (fun w => sadd_run z52 w) ?_
   refine ⟨⟨(k + 1, (out ++ [32]) ++ decM l[k]), hlt, i2.trans (fmtNums_at hlt), by simp only [List.length_append, List.length_cons, List.length_nil]; omega⟩, ?_, by simp only; omega⟩
   exact weak_mk [0] zw8 zw0 zw8 zw5 zw18 rfl rfl
 have hge : l.length ≤ k := by have := of_decide_eq_false g; omega
 rw [List.drop_eq_nil_of_le hge, fmtNums] at i2
 refine stop_bin rfl rfl rfl ⟨rfl, rfl⟩ (.string (bs (out ++ [10]))) (fun w => eqGuard_str w) (fun w => sadd_run z52 w) ?_
 rw [i2]
 exact ret0 ⟨rfl, rfl⟩ (fun _ => rfl)
set_option maxHeartbeats 8000000 in
set_option maxRecDepth 100000 in
theorem line_c (line wd : Str) (w : World) (hb : line.length ≤ 1000) :
   Calls Tryz.prog 162 #[.string (bs line), .string (bs wd)] w (Ret w fun v L => ∃ (z : Sl) (ns : List Int) (b : Bool), v = .tuple #[z.val ns.length, .bool b] ∧ (b = false → lineM line wd = none) ∧ (b = true → lineM line wd = some ns) ∧ L = [own z 3 cInt 1 ns]) := by
 have hcl := cutM_len 32 line
 have hpt : ∀ x ∈ cutM 32 line, x.length ≤ 1000 := fun x hx => Nat.le_trans (cutM_part hx) hb
 have h0 : ¬ ((cutM 32 line).headD [] = wd ∧ 2 ≤ (cutM 32 line).length) → lineM line wd = none := fun h => if_neg h
 have h1 : ((cutM 32 line).headD [] = wd ∧ 2 ≤ (cutM 32 line).length) → lineM line wd = match numsM (((cutM 32 line).drop 1).take 5) with | none => none | some ns => if ns.length + 1 = (cutM 32 line).length then some ns else none := fun h => if_pos h
 generalize lineM line wd = M at h0 h1 ⊢
 refine calls2 Tryz.func162 rfl tabOk w _ rfl _ rfl [] trivial trivial _ _ (by decide) ?_
 refine stop_call _ cl161 rfl rfl rfl rfl ⟨rfl, rfl⟩ (fun A w hW => (cut_c line 32 w (by omega))) ?_
 rintro v L ⟨y, rfl, rfl⟩
 generalize cutM 32 line = ps at hcl hpt h0 h1 ⊢
 refine AllSl.mk fun l0 => ?_
 have hp0 : 0 < ps.length := by omega
 have hhd : ps.headD [] = ps[0] := by
   cases ps with
   | nil => simp at hp0
   | cons a r => rfl
 rw [hhd] at h0 h1
 refine stop_idx encTxt tabOk rfl rfl rfl rfl rfl ⟨rfl, rfl⟩ (rdOwnAt 1 rfl) 0 rfl z38 (fun ad => ?_)
 refine stop_bin rfl rfl rfl ⟨rfl, rfl⟩ (.bool ((ps[0]) != wd)) (fun w => eqGuard_str w) (fun w => sne_run w) ?_
 apply CaseB.mk <;> intro g
 · have e := h0 (fun h => by rw [h.1] at g; simp at g)
   exact retw [0] ⟨l0, [], false, rfl, fun _ => e, fun h => z97, rfl⟩ z133 rfl ⟨rfl, trivial⟩ (fun _ => rfl)
 have e0 : ps[0] = wd := by simpa using g
 refine CaseB.mk (fun g2 => ?_) (fun g2 => ?_)
 · have e := h0 (fun h => by have := of_decide_eq_true g2; omega)
   exact retw [0] ⟨l0, [], false, rfl, fun _ => e, fun h => z97, rfl⟩ z133 rfl ⟨rfl, trivial⟩ (fun _ => rfl)
 have hM := h1 ⟨e0, by have := of_decide_eq_false g2; omega⟩
 clear h0 h1
 refine LoopW.mk ⟨{ q : Nat × Sl × List Int // 1 ≤ q.1 ∧ q.1 ≤ 6 ∧ q.1 ≤ ps.length ∧ numsM ((ps.drop 1).take 5) = behind q.2.2 (numsM ((ps.drop q.1).take (6 - q.1))) ∧ q.2.2.length + 1 = q.1 },
   fun q => .mk [(6, .v (y.val ps.length)), (7, .v (q.1.2.1.val q.1.2.2.length)), (8, .v (.int .i64 (q.1.1 : Int)))] 0 0 [] [] [own q.1.2.1 3 cInt 1 q.1.2.2, own y 9 cTxt 1 ps],
   fun q => 6 - q.1.1, ⟨(1, l0, []), Nat.le_refl _, by show 1 ≤ 6; omega, hcl.1, by simp only [behind, List.nil_append]; cases numsM ((ps.drop 1).take (6 - 1)) <;> rfl, rfl⟩, ?_, ?_⟩
 · exact weak_mk [0, 1] zw2 zw0 zw2 zw5 zw4 rfl rfl
 rintro ⟨⟨i, z, ns⟩, i1, i2, i3, i4, i5⟩
 simp only at i1 i2 i3 i4 i5 ⊢
 apply CaseB.mk <;> intro g
 refine CaseB.mk (fun g2 => ?_) (fun g2 => ?_)
 · have hlt : i < ps.length := by have := of_decide_eq_true g; omega
   have h6 : i < 6 := by have := of_decide_eq_true g2; omega
   have hw := e_succ i _ hlt (by omega)
   obtain ⟨m, hm⟩ : ∃ m, 6 - i = m + 1 := ⟨5 - i, by omega⟩
   have hd : (ps.drop i).take (6 - i) = ps[i] :: (ps.drop (i + 1)).take (6 - (i + 1)) := by rw [hm, drop_take hlt, show 6 - (i + 1) = m by omega]
   rw [hd] at i4
   refine stop_idx encTxt tabOk rfl rfl rfl rfl rfl ⟨rfl, rfl⟩ (rdOwnAt 1 rfl) i rfl z38 (fun ad => ?_)
   obtain ⟨pt, hpe⟩ : ∃ pt, pt = ps[i] := ⟨_, rfl⟩
   have hpl : pt.length ≤ 1000 := by rw [hpe]; exact hpt _ (List.getElem_mem hlt)
   rw [← hpe] at i4 ⊢
   refine stop_call _ cl171 rfl rfl rfl rfl ⟨rfl, rfl⟩ (fun A w hW => (snum_c pt w (by omega))) ?_
   rintro v L ⟨rfl, rfl⟩
   cases hn : numM pt with
   | none =>
     refine CaseB.mk (fun g3 => ?_) (fun g3 => by simp at g3)
     refine AllSl.mk fun l2 => ?_
     have e : M = none := by rw [hM, i4.trans (behind_none hn)]
     exact retw [0] ⟨l2, [], false, rfl, fun _ => e, fun h => z97, rfl⟩ z133 rfl ⟨rfl, trivial⟩ (fun _ => rfl)
   | some n =>
     refine CaseB.mk (fun g3 => by simp at g3) (fun g3 => ?_)
     refine AllSl.mk fun b3 => ?_
     refine stop_app encInt 1 tabOk (xs := ns) (ys := [n]) rfl rfl rfl rfl rfl rfl rfl rfl rfl (by decide) ⟨rfl, rfl⟩ rfl z30 z38 z38 (fun z3 => ?_)
     refine ⟨⟨(i + 1, z3, ns ++ [n]), show 1 ≤ i + 1 by omega, h6, hlt, i4.trans (behind_some hn), by simp; omega⟩, ?_, by simp only; omega⟩
     exact weak_mk [0, 2] zw1 zw0 zw1 zw5 zw3 rfl rfl
 have hfin : numsM ((ps.drop 1).take 5) = some ns := by
   rw [i4, show 6 - i = 0 by have := of_decide_eq_false g2; omega, List.take_zero]
   simp [numsM, behind]
 rotate_left
 have hfin : numsM ((ps.drop 1).take 5) = some ns := by
   rw [i4, List.drop_eq_nil_of_le z78, List.take_nil]
   simp [numsM, behind]
 rotate_left
 all_goals
   rw [hfin] at hM
   simp only at hM
   have hw1 : IntKind.i64.wrap ((ps.length : Int) - 1) = (ps.length : Int) - 1 := wrap_nn (by omega) (by omega)
   by_cases he : ns.length + 1 = ps.length
   · rw [if_pos he] at hM
     exact retw [0] ⟨z, ns, _, rfl, fun h => by rw [hw1] at h; have h' : ¬ (ns.length : Int) = (ps.length : Int) - 1 := z89; omega, fun _ => hM, rfl⟩ z133 rfl ⟨rfl, trivial⟩ (fun _ => rfl)
   · rw [if_neg he] at hM
     exact retw [0] ⟨z, ns, _, rfl, fun _ => hM, fun h => by rw [hw1] at h; have h' : (ns.length : Int) = (ps.length : Int) - 1 := z89; omega, rfl⟩ z133 rfl ⟨rfl, trivial⟩ (fun _ => rfl)
def opAtM (i : Nat) (s : Str) : Option Op := if i = 0 then parseOpM s else if s.head? = some 32 then parseOpM (s.drop 1) else none
def opsX (i : Nat) : List Str → Option (List Op)
 | [] => some []
 | s :: r => match opAtM i s with
   | none => none
   | some o => match opsG r with
     | none => none
     | some l => some (o :: l)
theorem opsX_0 : ∀ l : List Str, opsM l = opsX 0 l
 | [] => rfl
 | _ :: _ => rfl
theorem opsX_s {i : Nat} (h : 1 ≤ i) : ∀ l : List Str, opsG l = opsX i l
 | [] => rfl
 | s :: r => by simp only [opsG, opsX, opAtM, if_neg (show ¬ i = 0 by omega)]; rfl
def behindO (ns : List Op) (o : Option (List Op)) : Option (List Op) := match o with | none => none | some l => some (ns ++ l)
theorem behindO_some {ns : List Op} {s : Str} {r : List Str} {o : Op} {i : Nat} (h : opAtM i s = some o) : behindO ns (opsX i (s :: r)) = behindO (ns ++ [o]) (opsX (i + 1) r) := by
 rw [← opsX_s (by omega) r, opsX, h]
 cases opsG r with
 | none => rfl
 | some l => simp [behindO]
theorem behindO_none {ns : List Op} {s : Str} {r : List Str} {i : Nat} (h : opAtM i s = none) : behindO ns (opsX i (s :: r)) = none := by
 rw [opsX, h]; rfl
set_option maxHeartbeats 8000000 in
set_option maxRecDepth 100000 in
theorem threadP_c (line : Str) (w : World) (hb : line.length ≤ 1000) :
   Calls Tryz.prog 163 #[.string (bs line)] w (Ret w fun v L => ∃ (z : Sl) (ns : List Op) (b : Bool), v = .tuple #[z.val ns.length, .bool b] ∧ (b = false → threadM line = none) ∧ (b = true → threadM line = some ns) ∧ L = [own z 44 cOp 3 ns]) := by
 have hcl := cutM_len 44 (line.drop 7)
 have hdl : (line.drop 7).length ≤ 1000 := by simp; omega
 have hpt : ∀ x ∈ cutM 44 (line.drop 7), x.length ≤ 1000 := fun x hx => Nat.le_trans (cutM_part hx) hdl
 have h0 : line = [116, 104, 114, 101, 97, 100] → threadM line = some [] := fun h => if_pos h
 have h1 : line ≠ [116, 104, 114, 101, 97, 100] → (line.length < 7 ∨ line.take 7 ≠ [116, 104, 114, 101, 97, 100, 32]) → threadM line = none := fun h h2 => by rw [threadM, if_neg h, if_pos h2]
 have h2 : line ≠ [116, 104, 114, 101, 97, 100] → ¬ (line.length < 7 ∨ line.take 7 ≠ [116, 104, 114, 101, 97, 100, 32]) → threadM line = match opsX 0 ((cutM 44 (line.drop 7)).take 9) with | none => none | some l => if (cutM 44 (line.drop 7)).length ≤ 8 then some l else none := fun h h2 => by rw [threadM, if_neg h, if_neg h2, opsX_0]; rfl
 generalize threadM line = M at h0 h1 h2 ⊢
 refine calls1 Tryz.func163 rfl tabOk w _ rfl _ rfl [] trivial trivial _ (by decide) ?_
 refine AllSl.mk fun l0 => ?_
 refine stop_bin rfl rfl rfl ⟨rfl, rfl⟩ (.bool (line == [116, 104, 114, 101, 97, 100])) (fun w => eqGuard_str w) (fun w => seq_run w) ?_
 apply CaseB.mk <;> intro g
 · have e := h0 z91
   exact retw [0] ⟨l0, [], true, rfl, fun h => z97, fun _ => e, rfl⟩ z133 rfl ⟨rfl, trivial⟩ (fun _ => rfl)
 have n0 : line ≠ [116, 104, 114, 101, 97, 100] := by simpa using g
 refine stop_slen tabOk rfl rfl rfl rfl rfl rfl ⟨rfl, rfl⟩ ?_
 apply CaseB.mk <;> intro g
 · have e := h1 n0 (.inl (by have := of_decide_eq_true g; omega))
   exact retw [0] ⟨l0, [], false, rfl, fun _ => e, fun h => z97, rfl⟩ z133 rfl ⟨rfl, trivial⟩ (fun _ => rfl)
 have l7 : 7 ≤ line.length := by have := of_decide_eq_false g; omega
 refine stop_scut tabOk rfl rfl rfl ⟨rfl, rfl⟩ rfl rfl (0) (7) rfl rfl z38 z38 ?_
 have ht7 : (line.drop 0).take (7 - 0) = line.take 7 := rfl
 rw [ht7]
 refine stop_bin rfl rfl rfl ⟨rfl, rfl⟩ (.bool ((line.take 7) != [116, 104, 114, 101, 97, 100, 32])) (fun w => eqGuard_str w) (fun w => sne_run w) ?_
 refine CaseB.mk (fun g2 => ?_) (fun g2 => ?_)
 · have e := h1 n0 (.inr z87)
   exact retw [0] ⟨l0, [], false, rfl, fun _ => e, fun h => z97, rfl⟩ z133 rfl ⟨rfl, trivial⟩ (fun _ => rfl)
 have hM := h2 n0 (fun h => by
   rcases h with h | h
   · omega
   · exact h z87)
 clear h0 h1 h2
 refine stop_scut tabOk rfl rfl rfl ⟨rfl, rfl⟩ rfl rfl (7) (line.length) rfl rfl z38 z38 ?_
 have hd7 : (line.drop 7).take (line.length - 7) = line.drop 7 := List.take_of_length_le z81
 rw [hd7]
 refine stop_call _ cl161 rfl rfl rfl rfl ⟨rfl, rfl⟩ (fun A w hW => (cut_c (line.drop 7) 44 w (by omega))) ?_
 rintro v L ⟨y, rfl, rfl⟩
 generalize cutM 44 (line.drop 7) = ps at hcl hpt hM ⊢
 refine LoopW.mk ⟨{ q : Nat × Sl × List Op // q.1 ≤ 9 ∧ q.1 ≤ ps.length ∧ opsX 0 (ps.take 9) = behindO q.2.2 (opsX q.1 ((ps.drop q.1).take (9 - q.1))) ∧ q.2.2.length = q.1 },
   fun q => .mk [(4, .v (q.1.2.1.val q.1.2.2.length)), (5, .v (y.val ps.length)), (6, .v (.int .i64 (q.1.1 : Int)))] 0 0 [] [] [own q.1.2.1 44 cOp 3 q.1.2.2, own y 9 cTxt 1 ps],
   fun q => 9 - q.1.1, ⟨(0, l0, []), Nat.zero_le _, Nat.zero_le _, by simp only [behindO, List.nil_append, List.drop_zero]; cases opsX 0 (ps.take 9) <;> rfl, rfl⟩, ?_, ?_⟩
 · exact weak_mk [1, 0] zw2 zw0 zw2 zw5 zw4 rfl rfl
 rintro ⟨⟨i, z, ns⟩, i1, i2, i3, i4⟩
 simp only at i1 i2 i3 i4 ⊢
 apply CaseB.mk <;> intro g
 refine CaseB.mk (fun g2 => ?_) (fun g2 => ?_)
 · have hlt : i < ps.length := by have := of_decide_eq_true g; omega
   have h8 : i < 9 := by have := of_decide_eq_true g2; omega
   have hw := e_succ i _ hlt (by omega)
   obtain ⟨m, hm⟩ : ∃ m, 9 - i = m + 1 := ⟨8 - i, by omega⟩
   have hd : (ps.drop i).take (9 - i) = ps[i] :: (ps.drop (i + 1)).take (9 - (i + 1)) := by rw [hm, drop_take hlt, show 9 - (i + 1) = m by omega]
   rw [hd] at i3
   refine stop_idx encTxt tabOk rfl rfl rfl rfl rfl ⟨rfl, rfl⟩ (rdOwnAt 1 rfl) i rfl z38 (fun ad => ?_)
   obtain ⟨pt, hpe⟩ : ∃ pt, pt = ps[i] := ⟨_, rfl⟩
   have hpl : pt.length ≤ 1000 := by rw [hpe]; exact hpt _ (List.getElem_mem hlt)
   rw [← hpe] at i3 ⊢
   have hbad : opAtM i pt = none → M = none := fun h => by rw [hM, i3.trans (behindO_none h)]
   refine CaseB.mk (fun g3 => ?_) (fun g3 => ?_)
   · have hi0 : ¬ i = 0 := by have := of_decide_eq_true g3; omega
     have hop : opAtM i pt = if pt.head? = some 32 then parseOpM (pt.drop 1) else none := if_neg hi0
     refine stop_bin rfl rfl rfl ⟨rfl, rfl⟩ (.bool (pt == [])) (fun w => eqGuard_str w) (fun w => seq_run w) ?_
     refine CaseB.mk (fun g4 => ?_) (fun g4 => ?_)
     · have e0 : pt = [] := by simpa using g4
       have e := hbad (by rw [hop, e0]; rfl)
       refine AllSl.mk fun l2 => ?_
       exact retw [0] ⟨l2, [], false, rfl, fun _ => e, fun h => z97, rfl⟩ z133 rfl ⟨rfl, trivial⟩ (fun _ => rfl)
     have hpp : 0 < pt.length := by
       cases pt with
       | nil => simp at g4
       | cons a r => simp
     have hh : pt.head? = some pt[0] := by rw [List.head?_eq_getElem?, List.getElem?_eq_getElem hpp]
     refine stop_sidx tabOk rfl rfl rfl rfl ⟨rfl, rfl⟩ (0) rfl z38 ?_
     refine CaseB.mk (fun g5 => ?_) (fun g5 => ?_)
     · have e32 : ¬ pt[0] = 32 := fun h => by rw [h] at g5; simp at g5
       have e := hbad (by rw [hop, hh, if_neg (fun h => e32 (Option.some.inj h))])
       refine AllSl.mk fun l2 => ?_
       exact retw [0] ⟨l2, [], false, rfl, fun _ => e, fun h => z97, rfl⟩ z133 rfl ⟨rfl, trivial⟩ (fun _ => rfl)
     have e32 : pt[0] = 32 := (u8_eq _ 32).1 (by simpa using g5)
     rw [hh, e32, if_pos rfl] at hop
     refine CaseB.mk (fun g6 => ?_) (fun g6 => by rw [g3] at g6; cases g6)
     refine stop_scut tabOk rfl rfl rfl ⟨rfl, rfl⟩ rfl rfl (1) (pt.length) rfl rfl z38 z38 ?_
     have hc1 : (pt.drop 1).take (pt.length - 1) = pt.drop 1 := List.take_of_length_le z81
     rw [hc1]
     have htl : (pt.drop 1).length ≤ 1000 := by simp; omega
     generalize pt.drop 1 = tx at hop htl ⊢
     refine stop_call _ cl172 rfl rfl rfl rfl ⟨rfl, rfl⟩ (fun A w hW => (parseOp_c tx w htl)) ?_
     rintro v L ⟨rfl, rfl⟩
     cases ho : parseOpM tx with
     | none =>
       refine CaseB.mk (fun g7 => ?_) (fun g7 => by simp at g7)
       refine AllSl.mk fun l2 => ?_
       have e := hbad (hop.trans ho)
       exact retw [0] ⟨l2, [], false, rfl, fun _ => e, fun h => z97, rfl⟩ z133 rfl ⟨rfl, trivial⟩ (fun _ => rfl)
     | some o =>
       refine CaseB.mk (fun g7 => by simp at g7) (fun g7 => ?_)
       refine AllSl.mk fun b3 => ?_
       refine stop_app encOp 1 tabOk (xs := ns) (ys := [o]) rfl rfl rfl rfl rfl rfl rfl rfl rfl (by decide) ⟨rfl, rfl⟩ rfl z30 z38 z38 (fun z3 => ?_)
       refine ⟨⟨(i + 1, z3, ns ++ [o]), h8, hlt, i3.trans (behindO_some (hop.trans ho)), by simp; omega⟩, ?_, by simp only; omega⟩
       exact weak_mk [0, 2] zw1 zw0 zw1 zw5 zw3 rfl rfl
   have hi0 : i = 0 := by have := of_decide_eq_false g3; omega
   have hop : opAtM i pt = parseOpM pt := if_pos hi0
   refine CaseB.mk (fun g6 => by rw [g3] at g6; cases g6) (fun g6 => ?_)
   have htl := hpl
   refine stop_call _ cl172 rfl rfl rfl rfl ⟨rfl, rfl⟩ (fun A w hW => (parseOp_c pt w htl)) ?_
   rintro v L ⟨rfl, rfl⟩
   cases ho : parseOpM pt with
   | none =>
     refine CaseB.mk (fun g7 => ?_) (fun g7 => by simp at g7)
     refine AllSl.mk fun l2 => ?_
     have e := hbad (hop.trans ho)
     exact retw [0] ⟨l2, [], false, rfl, fun _ => e, fun h => z97, rfl⟩ z133 rfl ⟨rfl, trivial⟩ (fun _ => rfl)
   | some o =>
     refine CaseB.mk (fun g7 => by simp at g7) (fun g7 => ?_)
     refine AllSl.mk fun b3 => ?_
     refine stop_app encOp 1 tabOk (xs := ns) (ys := [o]) rfl rfl rfl rfl rfl rfl rfl rfl rfl (by decide) ⟨rfl, rfl⟩ rfl z30 z38 z38 (fun z3 => ?_)
     refine ⟨⟨(i + 1, z3, ns ++ [o]), h8, hlt, i3.trans (behindO_some (hop.trans ho)), by simp; omega⟩, ?_, by simp only; omega⟩
     exact weak_mk [0, 2] zw1 zw0 zw1 zw5 zw3 rfl rfl
 have hfin : opsX 0 (ps.take 9) = some ns := by
   rw [i3, show 9 - i = 0 by have := of_decide_eq_false g2; omega, List.take_zero]
   simp [opsX, behindO]
 rotate_left
 have hfin : opsX 0 (ps.take 9) = some ns := by
   rw [i3, List.drop_eq_nil_of_le z78, List.take_nil]
   simp [opsX, behindO]
 rotate_left
 all_goals
   rw [hfin] at hM
   simp only at hM
   by_cases he : ps.length ≤ 8
   · rw [if_pos he] at hM
     exact retw [0] ⟨z, ns, _, rfl, fun h => by have := of_decide_eq_false h; omega, fun _ => hM, rfl⟩ z133 rfl ⟨rfl, trivial⟩ (fun _ => rfl)
   · rw [if_neg he] at hM
     exact retw [0] ⟨z, ns, _, rfl, fun _ => hM, fun h => by have := of_decide_eq_true h; omega, rfl⟩ z133 rfl ⟨rfl, trivial⟩ (fun _ => rfl)
set_option maxHeartbeats 16000000 in
set_option maxRecDepth 100000 in
theorem opValid_c (p : ProgH) (o : Op) (w : World) (h : At w [fR (progO p)]) :
   Calls Tryz.prog 106 #[progV p, .agg (cOp o).toArray] w (Tells w (OpOk p.pure o)) := by
 refine calls2 Tryz.func106 rfl tabOk w _ rfl _ rfl _ h ⟨rfl, rfl, trivial⟩ _ _ (by decide) ?_
 refine CaseB.mk (fun k1 => ?_) (fun k1 => ?_)
 · have hx := opOk1 (p := p.pure) (o := o) (by simpa using k1)
   apply CaseB.mk <;> intro g
   · have g' : o.on = 0 := by simpa using g
     refine stop_call _ cl63 rfl rfl rfl rfl ⟨rfl, rfl⟩ (fun A w hW => isValue_c _ w) ?_
     rintro v L ⟨rfl, rfl⟩
     exact ret0 ⟨_, rfl, by rw [hx]; simp [g'], rfl⟩ (fun _ => rfl)
   · have g' : ¬ o.on = 0 := by simpa using g
     exact ret0 ⟨_, rfl, tno fun e => g' (hx.1 e).1, rfl⟩ (fun _ => rfl)
 refine CaseB.mk (fun k2 => ?_) (fun k2 => ?_)
 · refine CaseB.mk (fun _ => ?_) (fun g => by rw [k2] at g; cases g)
   have hx := opOk2 (p := p.pure) (o := o) (.inl (by simpa using k2))
   refine draw_start tabOk z95 z95 z95 200 [((0, 0), .v (p.h0.val p.sems.length)), ((1, 0), .v (.int .i64 o.kind)), ((1, 1), .v (.int .i64 o.on)), ((1, 2), .v (.int .i64 o.arg))] [0] [_] z111 z125 ⟨rfl, trivial⟩ rfl ?_
   refine d_call _ cl153 rfl rfl rfl rfl ⟨rfl, rfl⟩ (fun A w hW => opOn_c p.h0 p.sems.length o (A 1) w ⟨hW.var rfl rfl, trivial⟩) ?_
   rintro v L ⟨b, rfl, hb, rfl⟩
   refine CaseB.mk (fun g1 => ?_) (fun g1 => ?_)
   · obtain ⟨c1, c2⟩ := hb.1 g1
     have hlt : o.on.toNat < p.sems.length := by omega
     have e : p.pure.sems.getD o.on.toNat 0 = p.sems[o.on.toNat] := by simp [ProgH.pure, List.getD, hlt]
     refine CaseB.mk (fun g2 => ?_) (fun g2 => ?_)
     · have c3 : 1 ≤ o.arg := by simp at g2; omega
       refine d_idx (ti := tiOf tab) encInt tabOk rfl rfl rfl rfl rfl ⟨rfl, rfl⟩ (rdVia 0 rfl (.ofR (progO_sems p))) o.on.toNat (by omega) z38 (fun ad => ?_)
       refine ret0 ⟨_, rfl, ?_, rfl⟩ (fun _ => rfl)
       rw [hx, e]
       show _ ↔ (0 ≤ o.on ∧ o.on < (p.sems.length : Int)) ∧ _
       simp [c1, c2, c3]
     · have c3 : ¬ 1 ≤ o.arg := by simp at g2; omega
       exact ret0 ⟨_, rfl, tno fun e => c3 (hx.1 e).2.1, rfl⟩ (fun _ => rfl)
   · exact ret0 ⟨_, rfl, tno fun e => z77, rfl⟩ (fun _ => rfl)
 refine CaseB.mk (fun k3 => ?_) (fun k3 => ?_)
 · skip
   have hx := opOk2 (p := p.pure) (o := o) (.inr (by simpa using k3))
   refine draw_start tabOk z95 z95 z95 200 [((0, 0), .v (p.h0.val p.sems.length)), ((1, 0), .v (.int .i64 o.kind)), ((1, 1), .v (.int .i64 o.on)), ((1, 2), .v (.int .i64 o.arg))] [0] [_] z111 z125 ⟨rfl, trivial⟩ rfl ?_
   refine d_call _ cl153 rfl rfl rfl rfl ⟨rfl, rfl⟩ (fun A w hW => opOn_c p.h0 p.sems.length o (A 1) w ⟨hW.var rfl rfl, trivial⟩) ?_
   rintro v L ⟨b, rfl, hb, rfl⟩
   refine CaseB.mk (fun g1 => ?_) (fun g1 => ?_)
   · obtain ⟨c1, c2⟩ := hb.1 g1
     have hlt : o.on.toNat < p.sems.length := by omega
     have e : p.pure.sems.getD o.on.toNat 0 = p.sems[o.on.toNat] := by simp [ProgH.pure, List.getD, hlt]
     refine CaseB.mk (fun g2 => ?_) (fun g2 => ?_)
     · have c3 : 1 ≤ o.arg := by simp at g2; omega
       refine d_idx (ti := tiOf tab) encInt tabOk rfl rfl rfl rfl rfl ⟨rfl, rfl⟩ (rdVia 0 rfl (.ofR (progO_sems p))) o.on.toNat (by omega) z38 (fun ad => ?_)
       refine ret0 ⟨_, rfl, ?_, rfl⟩ (fun _ => rfl)
       rw [hx, e]
       show _ ↔ (0 ≤ o.on ∧ o.on < (p.sems.length : Int)) ∧ _
       simp [c1, c2, c3]
     · have c3 : ¬ 1 ≤ o.arg := by simp at g2; omega
       exact ret0 ⟨_, rfl, tno fun e => c3 (hx.1 e).2.1, rfl⟩ (fun _ => rfl)
   · exact ret0 ⟨_, rfl, tno fun e => z77, rfl⟩ (fun _ => rfl)
 refine CaseB.mk (fun k4 => ?_) (fun k4 => ?_)
 · have hx := opOk4 (p := p.pure) (o := o) (by simpa using k4)
   apply CaseB.mk <;> intro g
   · have g1 : 0 ≤ o.on := by simp at g; omega
     apply CaseB.mk <;> intro g
     · have g2 : o.on ≤ 2 := by simp at g; omega
       refine stop_call _ cl63 rfl rfl rfl rfl ⟨rfl, rfl⟩ (fun A w hW => isValue_c _ w) ?_
       rintro v L ⟨rfl, rfl⟩
       exact ret0 ⟨_, rfl, by rw [hx]; simp [g1, g2], rfl⟩ (fun _ => rfl)
     · have g2 : ¬ o.on ≤ 2 := by simp at g; omega
       exact ret0 ⟨_, rfl, tno fun e => g2 (hx.1 e).2.1, rfl⟩ (fun _ => rfl)
   · have g1 : ¬ 0 ≤ o.on := by simp at g; omega
     exact ret0 ⟨_, rfl, tno fun e => g1 (hx.1 e).1, rfl⟩ (fun _ => rfl)
 refine CaseB.mk (fun k5 => ?_) (fun k5 => ?_)
 · skip
   have hx := opOk5 (p := p.pure) (o := o) (by simpa using k5)
   refine stop_call _ cl153 rfl rfl rfl rfl ⟨rfl, rfl⟩ (fun A w hW => opOn_c p.h1 p.groups.length o (A 1) w ⟨hW.var rfl rfl, trivial⟩) ?_
   rintro v L ⟨b, rfl, hb, rfl⟩
   refine CaseB.mk (fun g1 => ?_) (fun g1 => ?_)
   rotate_left
   · exact ret0 ⟨_, rfl, tno fun e => z77, rfl⟩ (fun _ => rfl)
   have c := hb.1 g1
   have c' : 0 ≤ o.on ∧ o.on < (p.pure.groups.length : Int) := c
   refine CaseB.mk (fun g2 => ?_) (fun g2 => ?_)
   · have c3 : -9 ≤ o.arg := by simp at g2; omega
     exact ret0 ⟨_, rfl, by rw [hx]; simp only [c', c3, true_and, and_self]; simp, rfl⟩ (fun _ => rfl)
   · have c3 : ¬ -9 ≤ o.arg := by simp at g2; omega
     exact ret0 ⟨_, rfl, tno fun e => c3 (hx.1 e).2.1, rfl⟩ (fun _ => rfl)
 refine CaseB.mk (fun k6 => ?_) (fun k6 => ?_)
 · skip
   have hx := opOk6 (p := p.pure) (o := o) (by simpa using k6)
   refine stop_call _ cl153 rfl rfl rfl rfl ⟨rfl, rfl⟩ (fun A w hW => opOn_c p.h1 p.groups.length o (A 1) w ⟨hW.var rfl rfl, trivial⟩) ?_
   rintro v L ⟨b, rfl, hb, rfl⟩
   refine CaseB.mk (fun g1 => ?_) (fun g1 => ?_)
   rotate_left
   · exact ret0 ⟨_, rfl, tno fun e => z77, rfl⟩ (fun _ => rfl)
   have c := hb.1 g1
   have c' : 0 ≤ o.on ∧ o.on < (p.pure.groups.length : Int) := c
   exact ret0 ⟨_, rfl, by rw [hx]; simp only [c', true_and, and_self]; simp, rfl⟩ (fun _ => rfl)
 refine CaseB.mk (fun k7 => ?_) (fun k7 => ?_)
 · skip
   have hx := opOk7 (p := p.pure) (o := o) (by simpa using k7)
   refine stop_call _ cl153 rfl rfl rfl rfl ⟨rfl, rfl⟩ (fun A w hW => opOn_c p.h2 p.barriers.length o (A 1) w ⟨hW.var rfl rfl, trivial⟩) ?_
   rintro v L ⟨b, rfl, hb, rfl⟩
   refine CaseB.mk (fun g1 => ?_) (fun g1 => ?_)
   rotate_left
   · exact ret0 ⟨_, rfl, tno fun e => z77, rfl⟩ (fun _ => rfl)
   have c := hb.1 g1
   have c' : 0 ≤ o.on ∧ o.on < (p.pure.barriers.length : Int) := c
   exact ret0 ⟨_, rfl, by rw [hx]; simp only [c', true_and, and_self]; simp, rfl⟩ (fun _ => rfl)
 refine CaseB.mk (fun k8 => ?_) (fun k8 => ?_)
 · skip
   have hx := opOk8 (p := p.pure) (o := o) (by simpa using k8)
   refine stop_call _ cl153 rfl rfl rfl rfl ⟨rfl, rfl⟩ (fun A w hW => opOn_c p.h3 p.rooms.length o (A 1) w ⟨hW.var rfl rfl, trivial⟩) ?_
   rintro v L ⟨b, rfl, hb, rfl⟩
   refine CaseB.mk (fun g1 => ?_) (fun g1 => ?_)
   rotate_left
   · exact ret0 ⟨_, rfl, tno fun e => z77, rfl⟩ (fun _ => rfl)
   have c := hb.1 g1
   have c' : 0 ≤ o.on ∧ o.on < (p.pure.rooms.length : Int) := c
   refine stop_call _ cl63 rfl rfl rfl rfl ⟨rfl, rfl⟩ (fun A w hW => isValue_c _ w) ?_
   rintro v L ⟨rfl, rfl⟩
   exact ret0 ⟨_, rfl, by rw [hx]; simp only [c', true_and, and_self], rfl⟩ (fun _ => rfl)
 refine CaseB.mk (fun k9 => ?_) (fun k9 => ?_)
 · refine CaseB.mk (fun _ => ?_) (fun g => by rw [k9] at g; cases g)
   have hx := opOk9 (p := p.pure) (o := o) (.inl (by simpa using k9))
   refine stop_call _ cl153 rfl rfl rfl rfl ⟨rfl, rfl⟩ (fun A w hW => opOn_c p.h3 p.rooms.length o (A 1) w ⟨hW.var rfl rfl, trivial⟩) ?_
   rintro v L ⟨b, rfl, hb, rfl⟩
   refine CaseB.mk (fun g1 => ?_) (fun g1 => ?_)
   rotate_left
   · exact ret0 ⟨_, rfl, tno fun e => z77, rfl⟩ (fun _ => rfl)
   have c := hb.1 g1
   have c' : 0 ≤ o.on ∧ o.on < (p.pure.rooms.length : Int) := c
   exact ret0 ⟨_, rfl, by rw [hx]; simp only [c', true_and, and_self]; simp, rfl⟩ (fun _ => rfl)
 refine CaseB.mk (fun k10 => ?_) (fun k10 => ?_)
 · skip
   have hx := opOk9 (p := p.pure) (o := o) (.inr (by simpa using k10))
   refine stop_call _ cl153 rfl rfl rfl rfl ⟨rfl, rfl⟩ (fun A w hW => opOn_c p.h3 p.rooms.length o (A 1) w ⟨hW.var rfl rfl, trivial⟩) ?_
   rintro v L ⟨b, rfl, hb, rfl⟩
   refine CaseB.mk (fun g1 => ?_) (fun g1 => ?_)
   rotate_left
   · exact ret0 ⟨_, rfl, tno fun e => z77, rfl⟩ (fun _ => rfl)
   have c := hb.1 g1
   have c' : 0 ≤ o.on ∧ o.on < (p.pure.rooms.length : Int) := c
   exact ret0 ⟨_, rfl, by rw [hx]; simp only [c', true_and, and_self]; simp, rfl⟩ (fun _ => rfl)
 have hno : ¬ OpOk p.pure o := opOk0 (by simp at k1 k2 k3 k4 k5 k6 k7 k8 k9 k10; omega)
 exact ret0 ⟨_, rfl, tno hno, rfl⟩ (fun _ => rfl)
def l6Words : List ByteArray := [⟨#[]⟩, ⟨#[115, 97, 121]⟩, ⟨#[97, 99, 113, 117, 105, 114, 101]⟩, ⟨#[114, 101, 108, 101, 97, 115, 101]⟩, ⟨#[111, 110, 99, 101]⟩, ⟨#[97, 100, 100]⟩, ⟨#[119, 97, 105, 116]⟩, ⟨#[97, 114, 114, 105, 118, 101]⟩, ⟨#[115, 101, 110, 100]⟩, ⟨#[103, 101, 116]⟩, ⟨#[99, 108, 111, 115, 101]⟩]
def cStr (b : ByteArray) : List Value := [.string b]
theorem encStr : Enc cStr 1 := ⟨fun _ => rfl, fun _ u hu => by simp [cStr] at hu; subst hu; rfl⟩
def wordOf (k : Int) : ByteArray := if 1 ≤ k ∧ k ≤ 10 then l6Words.getD k.toNat ⟨#[]⟩ else ⟨#[]⟩
theorem wordOf_empty (k : Int) : ((wordOf k).toList == (⟨#[]⟩ : ByteArray).toList) = true ↔ ¬ (1 ≤ k ∧ k ≤ 10) := by
 unfold wordOf
 by_cases h : 1 ≤ k ∧ k ≤ 10
 · rw [if_pos h]
   have : k = 1 ∨ k = 2 ∨ k = 3 ∨ k = 4 ∨ k = 5 ∨ k = 6 ∨ k = 7 ∨ k = 8 ∨ k = 9 ∨ k = 10 := by omega
   simp only [h, and_self, not_true_eq_false, iff_false]
   rw [← beq_toListBytes]
   rcases this with rfl | rfl | rfl | rfl | rfl | rfl | rfl | rfl | rfl | rfl <;> decide
 · rw [if_neg h]
   simp [h]
set_option maxHeartbeats 4000000 in
set_option maxRecDepth 100000 in
theorem l6Word_c (k : Int) (w : World) : Calls Tryz.prog 154 #[.int .i64 k] w (Ret w fun v L => v = .string (wordOf k) ∧ L = []) := by
 refine calls1 Tryz.func154 rfl tabOk w _ rfl _ rfl [] trivial trivial _ (by decide) ?_
 refine AllSl.mk fun y => ?_
 apply CaseB.mk <;> intro g
 · have q : ¬ (1 ≤ k ∧ k ≤ 10) := by simp at g; omega
   exact ret0 ⟨by rw [wordOf, if_neg q], rfl⟩ (fun _ => rfl)
 refine CaseB.mk (fun g2 => ?_) (fun g2 => ?_)
 · have q : ¬ (1 ≤ k ∧ k ≤ 10) := by simp at g2; omega
   exact ret0 ⟨by rw [wordOf, if_neg q], rfl⟩ (fun _ => rfl)
 have q : 1 ≤ k ∧ k ≤ 10 := by simp at g g2; omega
 have hlt : k.toNat < l6Words.length := by show k.toNat < 11; omega
 refine stop_idx encStr (xs := l6Words) tabOk rfl rfl rfl rfl rfl ⟨rfl, rfl⟩ (rdOwnAt 0 rfl) k.toNat (by omega) hlt (fun ad => ?_)
 exact ret0 ⟨by rw [wordOf, if_pos q]; simp [List.getD, hlt], rfl⟩ (fun _ => rfl)
set_option maxRecDepth 100000 in
theorem l6Numbers_c (i : Sl) (xs : List Int) (lo hi : Int) (w : World) (h : At w [slo i cInt 1 xs]) (hb : xs.length ≤ 4294967296) :
   Calls Tryz.prog 111 #[i.val xs.length, .int .i64 lo, .int .i64 hi] w (Tells w (within xs lo hi)) := by
 refine calls3 Tryz.func111 rfl tabOk w _ rfl _ rfl _ h ⟨rfl, rfl, trivial⟩ _ _ _ (by decide) ?_
 refine LoopW.mk ⟨{ k : Nat // k ≤ xs.length ∧ k ≤ 4 ∧ ∀ x ∈ xs.take k, lo ≤ x ∧ x ≤ hi },
   fun k => .mk [(0, .v (i.val xs.length)), (1, .v (.int .i64 lo)), (2, .v (.int .i64 hi)), (7, .v (.int .i64 (k.1 : Int)))] 0 0 [] [] [slo i cInt 1 xs],
   fun k => xs.length - k.1, ⟨0, Nat.zero_le _, by omega, by simp⟩, ?_, ?_⟩
 · exact weak_mk [0] zw2 zw0 zw2 zw5 zw4 rfl rfl
 rintro ⟨k, hk, h4, hinv⟩
 apply CaseB.mk <;> intro g
 · have hlt : k < xs.length := by simpa using g
   apply CaseB.mk <;> intro g
   · have h3 : k ≤ 3 := by simp at g; omega
     refine stop_idx encInt tabOk rfl rfl rfl rfl rfl ⟨rfl, rfl⟩ z30 k rfl z38 (fun ad => ?_)
     apply CaseB.mk <;> intro g
     · have q : xs[k] < lo := by simpa using g
       exact ret0 ⟨_, rfl, tno fun e => by have := (e.2 _ (List.getElem_mem hlt)).1; omega, rfl⟩ (fun _ => rfl)
     have q1 : ¬ xs[k] < lo := by simpa using g
     refine stop_idx encInt tabOk rfl rfl rfl rfl rfl ⟨rfl, rfl⟩ z30 k rfl z38 (fun ad2 => ?_)
     apply CaseB.mk <;> intro g
     · have q : hi < xs[k] := by simpa using g
       exact ret0 ⟨_, rfl, tno fun e => by have := (e.2 _ (List.getElem_mem hlt)).2; omega, rfl⟩ (fun _ => rfl)
     have q2 : ¬ hi < xs[k] := by simpa using g
     have hw := e_succ k _ hlt (by omega)
     refine ⟨⟨k + 1, by omega, by omega, fun x hx => ?_⟩, ?_, by simp; omega⟩
     · rw [List.take_succ_eq_append_getElem hlt] at hx
       rcases List.mem_append.1 hx with hx | hx
       · exact hinv x hx
       · simp at hx; subst hx; omega
     · exact weak_mk [0] zw1 zw0 zw1 zw5 zw3 rfl rfl
   · have h3 : ¬ k ≤ 3 := by simp at g; omega
     have : ¬ xs.length ≤ 3 := by omega
     exact ret0 ⟨_, rfl, by simp [within]; omega, rfl⟩ (fun _ => rfl)
 · have hge : xs.length ≤ k := by simpa using g
   rw [List.take_of_length_le hge] at hinv
   refine ret0 ⟨_, rfl, ?_, rfl⟩ (fun _ => rfl)
   simp only [within, decide_eq_true_eq]
   exact ⟨fun e => ⟨by omega, hinv⟩, fun e => by have := e.1; omega⟩
set_option maxRecDepth 100000 in
theorem l6Shared_c (p : ProgH) (k : Int) (w : World) : Calls Tryz.prog 155 #[progV p, .int .i64 k] w (Ret w fun v L => v = .int .i64 (p.pure.shared k) ∧ L = []) := by
 have t : p.pure.sems = p.sems ∧ p.pure.groups = p.groups ∧ p.pure.barriers = p.barriers ∧ p.pure.rooms = p.rooms := ⟨rfl, rfl, rfl, rfl⟩
 refine calls2 Tryz.func155 rfl tabOk w _ rfl _ rfl [] trivial trivial _ _ (by decide) ?_
 refine CaseB.mk (fun k1 => ?_) (fun k1 => ?_)
 · have q1 : k = 1 := by simpa using k1
   exact ret0 ⟨by simp [Prog.shared, q1], rfl⟩ (fun _ => rfl)
 have q1 : ¬ k = 1 := by simpa using k1
 refine CaseB.mk (fun k2 => ?_) (fun k2 => ?_)
 · have q2 : k = 2 := by simpa using k2
   refine CaseB.mk (fun _ => ?_) (fun g => by rw [k2] at g; cases g)
   exact ret0 ⟨by simp [Prog.shared, t, q2], rfl⟩ (fun _ => rfl)
 have q2 : ¬ k = 2 := by simpa using k2
 refine CaseB.mk (fun k3 => ?_) (fun k3 => ?_)
 · have q3 : k = 3 := by simpa using k3
   exact ret0 ⟨by simp [Prog.shared, t, q3], rfl⟩ (fun _ => rfl)
 have q3 : ¬ k = 3 := by simpa using k3
 refine CaseB.mk (fun k4 => ?_) (fun k4 => ?_)
 · have q4 : k = 4 := by simpa using k4
   exact ret0 ⟨by simp [Prog.shared, q4], rfl⟩ (fun _ => rfl)
 have q4 : ¬ k = 4 := by simpa using k4
 refine CaseB.mk (fun k5 => ?_) (fun k5 => ?_)
 · have q5 : k = 5 := by simpa using k5
   refine CaseB.mk (fun _ => ?_) (fun g => by rw [k5] at g; cases g)
   exact ret0 ⟨by simp [Prog.shared, t, q5], rfl⟩ (fun _ => rfl)
 have q5 : ¬ k = 5 := by simpa using k5
 refine CaseB.mk (fun k6 => ?_) (fun k6 => ?_)
 · have q6 : k = 6 := by simpa using k6
   exact ret0 ⟨by simp [Prog.shared, t, q6], rfl⟩ (fun _ => rfl)
 have q6 : ¬ k = 6 := by simpa using k6
 refine CaseB.mk (fun k7 => ?_) (fun k7 => ?_)
 · have q7 : k = 7 := by simpa using k7
   exact ret0 ⟨by simp [Prog.shared, t, q7], rfl⟩ (fun _ => rfl)
 have q7 : ¬ k = 7 := by simpa using k7
 exact ret0 ⟨by simp [Prog.shared, t, q1, q2, q3, q4, q5, q6, q7], rfl⟩ (fun _ => rfl)
set_option maxRecDepth 100000 in
theorem l6Arg_c (p : ProgH) (o : Op) (w : World) (h : At w [fR (progO p)]) (h0 : 0 ≤ o.on) (h1 : o.on < p.pure.shared o.kind) :
   Calls Tryz.prog 156 #[progV p, .agg (cOp o).toArray] w (Tells w (p.pure.argOk o)) := by
 refine calls2 Tryz.func156 rfl tabOk w _ rfl _ rfl _ h ⟨rfl, rfl, trivial⟩ _ _ (by decide) ?_
 refine CaseB.mk (fun k2 => ?_) (fun k2 => ?_)
 · refine CaseB.mk (fun _ => ?_) (fun g => by rw [k2] at g; cases g)
   have q : o.kind = 2 := by simpa using k2
   have hs : o.on < (p.sems.length : Int) := by simpa [Prog.shared, q, ProgH.pure] using h1
   have hlt : o.on.toNat < p.sems.length := by omega
   have e : p.pure.sems.getD o.on.toNat 0 = p.sems[o.on.toNat] := by simp [ProgH.pure, List.getD, hlt]
   have hx : p.pure.argOk o ↔ 1 ≤ o.arg ∧ o.arg ≤ p.sems[o.on.toNat] := by rw [← e]; simp [Prog.argOk, q]
   refine draw_start tabOk z95 z95 z95 200 [((0, 0), .v (p.h0.val p.sems.length)), ((1, 0), .v (.int .i64 o.kind)), ((1, 1), .v (.int .i64 o.on)), ((1, 2), .v (.int .i64 o.arg))] [0] [_] z111 z125 ⟨rfl, trivial⟩ rfl ?_
   apply CaseB.mk <;> intro g
   · have c : 1 ≤ o.arg := by simp at g; omega
     refine d_idx (ti := tiOf tab) encInt tabOk rfl rfl rfl rfl rfl ⟨rfl, rfl⟩ (rdVia 0 rfl (.ofR (progO_sems p))) o.on.toNat (by omega) z38 (fun ad => ?_)
     exact ret0 ⟨_, rfl, by rw [hx]; simp [c], rfl⟩ (fun _ => rfl)
   · have c : ¬ 1 ≤ o.arg := by simp at g; omega
     exact ret0 ⟨_, rfl, tno fun e => c (hx.1 e).1, rfl⟩ (fun _ => rfl)
 refine CaseB.mk (fun k3 => ?_) (fun k3 => ?_)
 · skip
   have q : o.kind = 3 := by simpa using k3
   have hs : o.on < (p.sems.length : Int) := by simpa [Prog.shared, q, ProgH.pure] using h1
   have hlt : o.on.toNat < p.sems.length := by omega
   have e : p.pure.sems.getD o.on.toNat 0 = p.sems[o.on.toNat] := by simp [ProgH.pure, List.getD, hlt]
   have hx : p.pure.argOk o ↔ 1 ≤ o.arg ∧ o.arg ≤ p.sems[o.on.toNat] := by rw [← e]; simp [Prog.argOk, q]
   refine draw_start tabOk z95 z95 z95 200 [((0, 0), .v (p.h0.val p.sems.length)), ((1, 0), .v (.int .i64 o.kind)), ((1, 1), .v (.int .i64 o.on)), ((1, 2), .v (.int .i64 o.arg))] [0] [_] z111 z125 ⟨rfl, trivial⟩ rfl ?_
   apply CaseB.mk <;> intro g
   · have c : 1 ≤ o.arg := by simp at g; omega
     refine d_idx (ti := tiOf tab) encInt tabOk rfl rfl rfl rfl rfl ⟨rfl, rfl⟩ (rdVia 0 rfl (.ofR (progO_sems p))) o.on.toNat (by omega) z38 (fun ad => ?_)
     exact ret0 ⟨_, rfl, by rw [hx]; simp [c], rfl⟩ (fun _ => rfl)
   · have c : ¬ 1 ≤ o.arg := by simp at g; omega
     exact ret0 ⟨_, rfl, tno fun e => c (hx.1 e).1, rfl⟩ (fun _ => rfl)
 have n2 : ¬ o.kind = 2 := by simpa using k2
 have n3 : ¬ o.kind = 3 := by simpa using k3
 refine CaseB.mk (fun k5 => ?_) (fun k5 => ?_)
 · have q : o.kind = 5 := by simpa using k5
   have hx : p.pure.argOk o ↔ -9 ≤ o.arg ∧ o.arg ≤ 9 := by simp [Prog.argOk, q]
   apply CaseB.mk <;> intro g
   · have c : -9 ≤ o.arg := by simp at g; omega
     exact ret0 ⟨_, rfl, by rw [hx]; simp [c], rfl⟩ (fun _ => rfl)
   · have c : ¬ -9 ≤ o.arg := by simp at g; omega
     exact ret0 ⟨_, rfl, tno fun e => c (hx.1 e).1, rfl⟩ (fun _ => rfl)
 have n5 : ¬ o.kind = 5 := by simpa using k5
 refine CaseB.mk (fun k1 => ?_) (fun k1 => ?_)
 · have q : o.kind = 1 := by simpa using k1
   have hx : p.pure.argOk o ↔ isValue o.arg = true := by simp [Prog.argOk, q]
   refine CaseB.mk (fun _ => ?_) (fun g => by rw [k1] at g; cases g)
   refine stop_call _ cl67 rfl rfl rfl rfl ⟨rfl, rfl⟩ (fun A w hW => l2Value_c _ w) ?_
   rintro v L ⟨rfl, rfl⟩
   exact ret0 ⟨_, rfl, by rw [hx], rfl⟩ (fun _ => rfl)
 have n1 : ¬ o.kind = 1 := by simpa using k1
 refine CaseB.mk (fun k4 => ?_) (fun k4 => ?_)
 · have q : o.kind = 4 := by simpa using k4
   have hx : p.pure.argOk o ↔ isValue o.arg = true := by simp [Prog.argOk, q]
   refine CaseB.mk (fun _ => ?_) (fun g => by rw [k4] at g; cases g)
   refine stop_call _ cl67 rfl rfl rfl rfl ⟨rfl, rfl⟩ (fun A w hW => l2Value_c _ w) ?_
   rintro v L ⟨rfl, rfl⟩
   exact ret0 ⟨_, rfl, by rw [hx], rfl⟩ (fun _ => rfl)
 have n4 : ¬ o.kind = 4 := by simpa using k4
 refine CaseB.mk (fun k8 => ?_) (fun k8 => ?_)
 · have q : o.kind = 8 := by simpa using k8
   have hx : p.pure.argOk o ↔ isValue o.arg = true := by simp [Prog.argOk, q]
   refine stop_call _ cl67 rfl rfl rfl rfl ⟨rfl, rfl⟩ (fun A w hW => l2Value_c _ w) ?_
   rintro v L ⟨rfl, rfl⟩
   exact ret0 ⟨_, rfl, by rw [hx], rfl⟩ (fun _ => rfl)
 have n8 : ¬ o.kind = 8 := by simpa using k8
 have hx : p.pure.argOk o ↔ o.arg = 0 := by simp [Prog.argOk, n1, n2, n3, n4, n5, n8]
 exact ret0 ⟨_, rfl, by rw [hx]; simp, rfl⟩ (fun _ => rfl)
set_option maxHeartbeats 4000000 in
set_option maxRecDepth 100000 in
theorem opValidS_c (p : ProgH) (o : Op) (w : World) (h : At w [fR (progO p)]) :
   Calls Tryz.prog 112 #[progV p, .agg (cOp o).toArray] w (Tells w (OpOk p.pure o)) := by
 refine calls2 Tryz.func112 rfl tabOk w _ rfl _ rfl _ h ⟨rfl, rfl, trivial⟩ _ _ (by decide) ?_
 refine draw_start tabOk z95 z95 z95 200 [((0, 0), .v (p.h0.val p.sems.length)), ((0, 1), .v (p.h1.val p.groups.length)), ((0, 2), .v (p.h2.val p.barriers.length)), ((0, 3), .v (p.h3.val p.rooms.length)), ((0, 4), .v (p.h4.val p.threads.length)), ((1, 0), .v (.int .i64 o.kind)), ((1, 1), .v (.int .i64 o.on)), ((1, 2), .v (.int .i64 o.arg))] [0] [_] ⟨⟨_, rfl, rfl, z70⟩, ⟨_, rfl, rfl, z70⟩, ⟨_, rfl, rfl, z70⟩, ⟨_, rfl, rfl, z70⟩, ⟨_, rfl, rfl, z70⟩, ⟨_, rfl, rfl, z70⟩, ⟨_, rfl, rfl, z70⟩, ⟨_, rfl, rfl, z70⟩, trivial⟩ ⟨⟨_, rfl⟩, ⟨_, rfl⟩, ⟨_, rfl⟩, ⟨_, rfl⟩, ⟨_, rfl⟩, ⟨_, rfl⟩, ⟨_, rfl⟩, ⟨_, rfl⟩, trivial⟩ ⟨rfl, trivial⟩ rfl ?_
 refine d_call _ cl154 rfl rfl rfl rfl ⟨rfl, rfl⟩ (fun A w hW => l6Word_c _ w) ?_
 rintro v L ⟨rfl, rfl⟩
 refine d_bin rfl rfl rfl ⟨rfl, rfl⟩ (.bool ((wordOf o.kind).toList == (⟨#[]⟩ : ByteArray).toList)) (fun w => (eqGuard_str w)) (fun w => (eql_str w)) ?_
 apply CaseB.mk <;> intro g
 · have q := (wordOf_empty o.kind).1 g
   exact ret0 ⟨_, rfl, tno fun e => q ⟨e.1, e.2.1⟩, rfl⟩ (fun _ => rfl)
 have q : 1 ≤ o.kind ∧ o.kind ≤ 10 := by
   refine Classical.byContradiction fun n => ?_
   rw [(wordOf_empty o.kind).2 n] at g
   cases g
 apply CaseB.mk <;> intro g
 · have c : ¬ 0 ≤ o.on := by simp at g; omega
   exact ret0 ⟨_, rfl, tno fun e => c e.2.2.1, rfl⟩ (fun _ => rfl)
 have c0 : 0 ≤ o.on := by simp at g; omega
 refine d_call _ cl155 rfl rfl rfl rfl ⟨rfl, rfl⟩ (fun A w hW => l6Shared_c p _ w) ?_
 rintro v L ⟨rfl, rfl⟩
 apply CaseB.mk <;> intro g
 · have c : ¬ o.on < p.pure.shared o.kind := by simp at g; omega
   exact ret0 ⟨_, rfl, tno fun e => c e.2.2.2.1, rfl⟩ (fun _ => rfl)
 have c1 : o.on < p.pure.shared o.kind := by simp at g; omega
 refine stop_call _ cl156 rfl rfl rfl rfl ⟨rfl, rfl⟩ (fun A w hW => l6Arg_c p o w ⟨hW.get 0 rfl (.refl _), trivial⟩ c0 c1) ?_
 rintro v L ⟨b, rfl, hb, rfl⟩
 exact ret0 ⟨_, rfl, by rw [hb]; simp [OpOk, q, c0, c1], rfl⟩ (fun _ => rfl)
set_option maxHeartbeats 16000000 in
set_option maxRecDepth 100000 in
theorem progValidS_c (p : ProgH) (w : World) (h : At w [fR (progO p)]) (hs : p.sems.length ≤ 1048576 ∧ p.groups.length ≤ 1048576 ∧ p.barriers.length ≤ 1048576 ∧ p.rooms.length ≤ 1048576) :
   Calls Tryz.prog 65 #[progV p] w (Tells w (ProgOk p.pure)) := by
 refine calls1 Tryz.func65 rfl tabOk w _ rfl _ rfl _ h ⟨rfl, rfl, trivial⟩ _ (by decide) ?_
 refine stop_call _ cl111 rfl rfl rfl rfl ⟨rfl, rfl⟩ (fun A w hW => l6Numbers_c p.h0 p.sems 1 9 w ⟨hW.get 0 rfl (.ofR (progO_sems p)), trivial⟩ (by omega)) ?_
 rintro v L ⟨b0, rfl, hb0, rfl⟩
 apply CaseB.mk <;> intro g
 · exact ret0 ⟨_, rfl, tno fun e => (by have := hb0.2 e.sems; rw [this] at g; cases g), rfl⟩ (fun _ => rfl)
 have w0 := hb0.1 z91
 refine stop_call _ cl111 rfl rfl rfl rfl ⟨rfl, rfl⟩ (fun A w hW => l6Numbers_c p.h1 p.groups 0 9 w ⟨hW.get 0 rfl (.ofR (progO_groups p)), trivial⟩ (by omega)) ?_
 rintro v L ⟨b1, rfl, hb1, rfl⟩
 apply CaseB.mk <;> intro g
 · exact ret0 ⟨_, rfl, tno fun e => (by have := hb1.2 e.groups; rw [this] at g; cases g), rfl⟩ (fun _ => rfl)
 have w1 := hb1.1 z91
 refine stop_call _ cl111 rfl rfl rfl rfl ⟨rfl, rfl⟩ (fun A w hW => l6Numbers_c p.h2 p.barriers 1 6 w ⟨hW.get 0 rfl (.ofR (progO_barriers p)), trivial⟩ (by omega)) ?_
 rintro v L ⟨b2, rfl, hb2, rfl⟩
 apply CaseB.mk <;> intro g
 · exact ret0 ⟨_, rfl, tno fun e => (by have := hb2.2 e.barriers; rw [this] at g; cases g), rfl⟩ (fun _ => rfl)
 have w2 := hb2.1 z91
 refine stop_call _ cl111 rfl rfl rfl rfl ⟨rfl, rfl⟩ (fun A w hW => l6Numbers_c p.h3 p.rooms 0 4 w ⟨hW.get 0 rfl (.ofR (progO_rooms p)), trivial⟩ (by omega)) ?_
 rintro v L ⟨b3, rfl, hb3, rfl⟩
 apply CaseB.mk <;> intro g
 · exact ret0 ⟨_, rfl, tno fun e => (by have := hb3.2 e.rooms; rw [this] at g; cases g), rfl⟩ (fun _ => rfl)
 have w3 := hb3.1 z91
 have hlen : p.pure.threads.length = p.threads.length := by simp [ProgH.pure]
 apply CaseB.mk <;> intro g
 · have q : ¬ 1 ≤ p.threads.length := by have g' := of_decide_eq_true g; omega
   exact ret0 ⟨_, rfl, tno fun e => q (hlen ▸ e.n1), rfl⟩ (fun _ => rfl)
 have n1 : 1 ≤ p.threads.length := by have g' := of_decide_eq_false g; omega
 apply CaseB.mk <;> intro g
 · have q : ¬ p.threads.length ≤ 4 := by simp at g; omega
   exact ret0 ⟨_, rfl, tno fun e => q (hlen ▸ e.n4), rfl⟩ (fun _ => rfl)
 have n4 : p.threads.length ≤ 4 := by simp at g; omega
 have hmem : ∀ (k : Nat) (hk : k < p.threads.length), (p.threads[k]).m ∈ p.pure.threads := fun k hk => List.mem_map_of_mem (List.getElem_mem hk)
 refine LoopW.mk ⟨{ k : Nat // k ≤ p.threads.length ∧ ∀ t ∈ p.pure.threads.take k, t.length ≤ 8 ∧ ∀ o ∈ t, OpOk p.pure o },
   fun k => .mk [(1, .p 0 0), (3, .v (.int .i64 (k.1 : Int)))] 1 0 [(0, 37, 5)] [((0, 0), .v (p.h0.val p.sems.length)), ((0, 1), .v (p.h1.val p.groups.length)), ((0, 2), .v (p.h2.val p.barriers.length)), ((0, 3), .v (p.h3.val p.rooms.length)), ((0, 4), .v (p.h4.val p.threads.length))] [fR (progO p)],
   fun k => p.threads.length - k.1, ⟨0, Nat.zero_le _, by simp⟩, ?_, ?_⟩
 · exact weak_mk [0] zw2 zw0 zw2 zw5 zw4 rfl rfl
 rintro ⟨k, hk, hinv⟩
 apply CaseB.mk <;> intro g
 · have hlt : k < p.threads.length := by simpa using g
   have hget : p.pure.threads[k]'(by rw [hlen]; exact hlt) = (p.threads[k]).m := by simp [ProgH.pure]
   refine LoopW.mk ⟨{ j : Nat // j ≤ (p.threads[k]).m.length ∧ j ≤ 9 ∧ ∀ o ∈ (p.threads[k]).m.take j, OpOk p.pure o },
     fun j => .mk [(1, .p 0 0), (3, .v (.int .i64 (k : Int))), (4, .v (.int .i64 (j.1 : Int)))] 1 0 [(0, 37, 5)] [((0, 0), .v (p.h0.val p.sems.length)), ((0, 1), .v (p.h1.val p.groups.length)), ((0, 2), .v (p.h2.val p.barriers.length)), ((0, 3), .v (p.h3.val p.rooms.length)), ((0, 4), .v (p.h4.val p.threads.length))] [fR (progO p)],
     fun j => (p.threads[k]).m.length - j.1, ⟨0, Nat.zero_le _, by omega, by simp⟩, ?_, ?_⟩
   · exact weak_mk [0] zw2 zw0 zw2 zw5 zw4 rfl rfl
   rintro ⟨j, hj, h9, hinv2⟩
   refine stop_idx encOpSH tabOk rfl rfl rfl rfl rfl ⟨rfl, rfl⟩ (rdVia 0 rfl (.trans (.R_R (progO_threads p)) (.ofR nest_h))) k rfl z38 (fun ad => ?_)
   have hend : ((p.threads[k]).m.length ≤ 8 → (p.threads[k]).m.length ≤ j) → (p.threads[k]).m.length ≤ 8 → ∀ t ∈ p.pure.threads.take (k + 1), t.length ≤ 8 ∧ ∀ o ∈ t, OpOk p.pure o := fun hge2 n8 t ht => by
     rw [List.take_succ_eq_append_getElem (by rw [hlen]; exact hlt)] at ht
     rcases List.mem_append.1 ht with ht | ht
     · exact hinv t ht
     · simp only [List.mem_singleton] at ht
       rw [hget] at ht
       subst ht
       exact ⟨n8, by rw [List.take_of_length_le (hge2 n8)] at hinv2; exact hinv2⟩
   have hw := e_succ k _ hlt (by omega)
   apply CaseB.mk <;> intro g
   · have hlj : j < (p.threads[k]).m.length := by simpa using g
     apply CaseB.mk <;> intro g
     · have h8 : j ≤ 8 := by simp at g; omega
       refine draw_start tabOk z95 z95 z95 200 [((0, 0), .v (p.h0.val p.sems.length)), ((0, 1), .v (p.h1.val p.groups.length)), ((0, 2), .v (p.h2.val p.barriers.length)), ((0, 3), .v (p.h3.val p.rooms.length)), ((0, 4), .v (p.h4.val p.threads.length))] [0] [_] z108 z122 ⟨rfl, trivial⟩ rfl ?_
       refine d_idx (ti := tiOf tab) encOpSH tabOk rfl rfl rfl rfl rfl ⟨rfl, rfl⟩ (rdVia 0 rfl (.trans (.R_R (progO_threads p)) (.ofR nest_h))) k rfl z38 (fun ad3 => ?_)
       refine d_idx (ti := tiOf tab) encOp tabOk rfl rfl rfl rfl rfl ⟨rfl, rfl⟩ (rdVia 0 rfl (.trans (.R_R (progO_threads p)) (.ofR (threadsO_0 _ _ k hlt)))) j rfl z38 (fun ad2 => ?_)
       refine d_call _ cl112 rfl rfl rfl rfl ⟨rfl, rfl⟩ (fun A w hW => opValidS_c p _ w ⟨hW.get 0 rfl (.refl _), trivial⟩) ?_
       rintro v L ⟨b, rfl, hb, rfl⟩
       apply CaseB.mk <;> intro g
       · exact ret0 ⟨_, rfl, tno fun e => z47, rfl⟩ (fun _ => rfl)
       have hw := e_succ j 9 (by omega) (by omega)
       refine ⟨⟨j + 1, by omega, by omega, fun o ho => ?_⟩, ?_, by simp; omega⟩
       · rw [List.take_succ_eq_append_getElem hlj] at ho
         rcases List.mem_append.1 ho with ho | ho
         · exact hinv2 o ho
         · simp at ho; subst ho; exact hb.1 z91
       · exact weak_mk [0] zw1 zw0 zw1 zw5 zw3 rfl rfl
     · have h8 : ¬ j ≤ 8 := by simp at g; omega
       refine stop_idx encOpSH tabOk rfl rfl rfl rfl rfl ⟨rfl, rfl⟩ (rdVia 0 rfl (.trans (.R_R (progO_threads p)) (.ofR nest_h))) k rfl z38 (fun ad4 => ?_)
       refine CaseB.mk (fun g => ?_) (fun g => by simp at g; omega)
       have q : ¬ (p.threads[k]).m.length ≤ 8 := by omega
       exact ret0 ⟨_, rfl, tno fun e => q (e.ops _ (hmem k hlt)).1, rfl⟩ (fun _ => rfl)
   have hge2 : (p.threads[k]).m.length ≤ j := by simpa using g
   refine stop_idx encOpSH tabOk rfl rfl rfl rfl rfl ⟨rfl, rfl⟩ (rdVia 0 rfl (.trans (.R_R (progO_threads p)) (.ofR nest_h))) k rfl z38 (fun ad4 => ?_)
   apply CaseB.mk <;> intro g
   · have q : ¬ (p.threads[k]).m.length ≤ 8 := by simp at g; omega
     exact ret0 ⟨_, rfl, tno fun e => q (e.ops _ (hmem k hlt)).1, rfl⟩ (fun _ => rfl)
   have n8 : (p.threads[k]).m.length ≤ 8 := by simp at g; omega
   refine ⟨⟨k + 1, by omega, hend (fun _ => hge2) n8⟩, ?_, by simp; omega⟩
   exact weak_mk [0] zw1 zw0 zw1 zw5 zw3 rfl rfl
 have hge : p.threads.length ≤ k := by simpa using g
 refine ret0 ⟨_, rfl, tyes ⟨w0, w1, w2, w3, by rw [hlen]; exact n1, by rw [hlen]; exact n4, fun t ht => ?_⟩, rfl⟩ (fun _ => rfl)
 rw [List.take_of_length_le (by rw [hlen]; exact hge)] at hinv
 exact hinv t ht
def OpS.small20 (m : List Op) : Prop := m.length ≤ 1048576
def Prog.small20 (s : Prog) : Prop := s.sems.length ≤ 1048576 ∧ s.groups.length ≤ 1048576 ∧ s.barriers.length ≤ 1048576 ∧ s.rooms.length ≤ 1048576 ∧ allS OpS.small20 s.threads
def Sem.small20 (m : Sem) : Prop := m.queue.length ≤ 1048576
def Once.small20 (m : Once) : Prop := m.waits.length ≤ 1048576
def Group.small20 (m : Group) : Prop := m.waits.length ≤ 1048576
def Barrier.small20 (m : Barrier) : Prop := m.waits.length ≤ 1048576
def Chan.small20 (m : Chan) : Prop := m.items.length ≤ 1048576 ∧ m.senders.length ≤ 1048576 ∧ m.getters.length ≤ 1048576
def State.small20 (s : State) : Prop := s.places.length ≤ 1048576 ∧ s.status.length ≤ 1048576 ∧ allS Sem.small20 s.sems ∧ allS Once.small20 s.onces ∧ allS Group.small20 s.groups ∧ allS Barrier.small20 s.barriers ∧ allS Chan.small20 s.chans ∧ s.said.length ≤ 1048576
set_option maxHeartbeats 16000000 in
set_option maxRecDepth 100000 in
theorem progValid_c (p : ProgH) (w : World) (h : At w [fR (progO p)]) (hs : p.sems.length ≤ 1048576 ∧ p.groups.length ≤ 1048576 ∧ p.barriers.length ≤ 1048576 ∧ p.rooms.length ≤ 1048576) :
   Calls Tryz.prog 57 #[progV p] w (Tells w (ProgOk p.pure)) := by
 refine calls1 Tryz.func57 rfl tabOk w _ rfl _ rfl _ h ⟨rfl, rfl, trivial⟩ _ (by decide) ?_
 refine stop_call _ cl105 rfl rfl rfl rfl ⟨rfl, rfl⟩ (fun A w hW => within_c p.h0 p.sems 1 9 w ⟨hW.get 0 rfl (.ofR (progO_sems p)), trivial⟩ (by omega)) ?_
 rintro v L ⟨b0, rfl, hb0, rfl⟩
 apply CaseB.mk <;> intro g
 · exact ret0 ⟨_, rfl, tno fun e => (by have := hb0.2 e.sems; rw [this] at g; cases g), rfl⟩ (fun _ => rfl)
 have w0 := hb0.1 z91
 refine stop_call _ cl105 rfl rfl rfl rfl ⟨rfl, rfl⟩ (fun A w hW => within_c p.h1 p.groups 0 9 w ⟨hW.get 0 rfl (.ofR (progO_groups p)), trivial⟩ (by omega)) ?_
 rintro v L ⟨b1, rfl, hb1, rfl⟩
 apply CaseB.mk <;> intro g
 · exact ret0 ⟨_, rfl, tno fun e => (by have := hb1.2 e.groups; rw [this] at g; cases g), rfl⟩ (fun _ => rfl)
 have w1 := hb1.1 z91
 refine stop_call _ cl105 rfl rfl rfl rfl ⟨rfl, rfl⟩ (fun A w hW => within_c p.h2 p.barriers 1 6 w ⟨hW.get 0 rfl (.ofR (progO_barriers p)), trivial⟩ (by omega)) ?_
 rintro v L ⟨b2, rfl, hb2, rfl⟩
 apply CaseB.mk <;> intro g
 · exact ret0 ⟨_, rfl, tno fun e => (by have := hb2.2 e.barriers; rw [this] at g; cases g), rfl⟩ (fun _ => rfl)
 have w2 := hb2.1 z91
 refine stop_call _ cl105 rfl rfl rfl rfl ⟨rfl, rfl⟩ (fun A w hW => within_c p.h3 p.rooms 0 4 w ⟨hW.get 0 rfl (.ofR (progO_rooms p)), trivial⟩ (by omega)) ?_
 rintro v L ⟨b3, rfl, hb3, rfl⟩
 apply CaseB.mk <;> intro g
 · exact ret0 ⟨_, rfl, tno fun e => (by have := hb3.2 e.rooms; rw [this] at g; cases g), rfl⟩ (fun _ => rfl)
 have w3 := hb3.1 z91
 have hlen : p.pure.threads.length = p.threads.length := by simp [ProgH.pure]
 apply CaseB.mk <;> intro g
 · have q : ¬ 1 ≤ p.threads.length := by have g' := of_decide_eq_true g; omega
   exact ret0 ⟨_, rfl, tno fun e => q (hlen ▸ e.n1), rfl⟩ (fun _ => rfl)
 have n1 : 1 ≤ p.threads.length := by have g' := of_decide_eq_false g; omega
 apply CaseB.mk <;> intro g
 · have q : ¬ p.threads.length ≤ 4 := by simp at g; omega
   exact ret0 ⟨_, rfl, tno fun e => q (hlen ▸ e.n4), rfl⟩ (fun _ => rfl)
 have n4 : p.threads.length ≤ 4 := by simp at g; omega
 have hmem : ∀ (k : Nat) (hk : k < p.threads.length), (p.threads[k]).m ∈ p.pure.threads := fun k hk => List.mem_map_of_mem (List.getElem_mem hk)
 refine LoopW.mk ⟨{ k : Nat // k ≤ p.threads.length ∧ ∀ t ∈ p.pure.threads.take k, t.length ≤ 8 ∧ ∀ o ∈ t, OpOk p.pure o },
   fun k => .mk [(1, .p 0 0), (42, .v (p.h4.val p.threads.length)), (43, .v (.int .i64 (p.threads.length : Int))), (44, .v (.int .i64 (k.1 : Int)))] 1 0 [(0, 37, 5)] [((0, 0), .v (p.h0.val p.sems.length)), ((0, 1), .v (p.h1.val p.groups.length)), ((0, 2), .v (p.h2.val p.barriers.length)), ((0, 3), .v (p.h3.val p.rooms.length)), ((0, 4), .v (p.h4.val p.threads.length))] [fR (progO p)],
   fun k => p.threads.length - k.1, ⟨0, Nat.zero_le _, by simp⟩, ?_, ?_⟩
 · exact weak_mk [0] zw2 zw0 zw2 zw5 zw4 rfl rfl
 rintro ⟨k, hk, hinv⟩
 apply CaseB.mk <;> intro g
 · have hlt : k < p.threads.length := by simpa using g
   have hget : p.pure.threads[k]'(by rw [hlen]; exact hlt) = (p.threads[k]).m := by simp [ProgH.pure]
   refine stop_idx encOpSH tabOk rfl rfl rfl rfl rfl ⟨rfl, rfl⟩ (rdVia 0 rfl (.trans (.R_R (progO_threads p)) (.ofR nest_h))) k rfl z38 (fun ad => ?_)
   apply CaseB.mk <;> intro g
   · have q : ¬ (p.threads[k]).m.length ≤ 8 := by simp at g; omega
     exact ret0 ⟨_, rfl, tno fun e => q (e.ops _ (hmem k hlt)).1, rfl⟩ (fun _ => rfl)
   have n8 : (p.threads[k]).m.length ≤ 8 := by simp at g; omega
   refine LoopW.mk ⟨{ j : Nat // j ≤ (p.threads[k]).m.length ∧ ∀ o ∈ (p.threads[k]).m.take j, OpOk p.pure o },
     fun j => .mk [(1, .p 0 0), (42, .v (p.h4.val p.threads.length)), (43, .v (.int .i64 (p.threads.length : Int))), (44, .v (.int .i64 (k : Int))), (51, .v ((p.threads[k]).q.val (p.threads[k]).m.length)), (52, .v (.int .i64 ((p.threads[k]).m.length : Int))), (53, .v (.int .i64 (j.1 : Int)))] 1 0 [(0, 37, 5)] [((0, 0), .v (p.h0.val p.sems.length)), ((0, 1), .v (p.h1.val p.groups.length)), ((0, 2), .v (p.h2.val p.barriers.length)), ((0, 3), .v (p.h3.val p.rooms.length)), ((0, 4), .v (p.h4.val p.threads.length))] [fR (progO p)],
     fun j => (p.threads[k]).m.length - j.1, ⟨0, Nat.zero_le _, by simp⟩, ?_, ?_⟩
   · exact weak_mk [0] zw2 zw0 zw2 zw5 zw4 rfl rfl
   rintro ⟨j, hj, hinv2⟩
   apply CaseB.mk <;> intro g
   · have hlj : j < (p.threads[k]).m.length := by simpa using g
     refine stop_idx encOp tabOk rfl rfl rfl rfl rfl ⟨rfl, rfl⟩ (rdVia 0 rfl (.trans (.R_R (progO_threads p)) (.ofR (threadsO_0 _ _ k hlt)))) j rfl z38 (fun ad2 => ?_)
     refine stop_call _ cl106 rfl rfl rfl rfl ⟨rfl, rfl⟩ (fun A w hW => opValid_c p _ w ⟨hW.get 0 rfl (.refl _), trivial⟩) ?_
     rintro v L ⟨b, rfl, hb, rfl⟩
     apply CaseB.mk <;> intro g
     · exact ret0 ⟨_, rfl, tno fun e => z47, rfl⟩ (fun _ => rfl)
     have hw := e_succ j _ hlj (by omega)
     refine ⟨⟨j + 1, by omega, fun o ho => ?_⟩, ?_, by simp; omega⟩
     · rw [List.take_succ_eq_append_getElem hlj] at ho
       rcases List.mem_append.1 ho with ho | ho
       · exact hinv2 o ho
       · simp at ho; subst ho; exact hb.1 z91
     · exact weak_mk [0] zw1 zw0 zw1 zw5 zw3 rfl rfl
   have hge2 : (p.threads[k]).m.length ≤ j := by simpa using g
   have hw := e_succ k _ hlt (by omega)
   refine ⟨⟨k + 1, by omega, fun t ht => ?_⟩, ?_, by simp; omega⟩
   · rw [List.take_succ_eq_append_getElem (by rw [hlen]; exact hlt)] at ht
     rcases List.mem_append.1 ht with ht | ht
     · exact hinv t ht
     · simp only [List.mem_singleton] at ht
       rw [hget] at ht
       subst ht
       exact ⟨n8, by rw [List.take_of_length_le hge2] at hinv2; exact hinv2⟩
   · exact weak_mk [0] zw1 zw0 zw1 zw5 zw3 rfl rfl
 have hge : p.threads.length ≤ k := by simpa using g
 refine ret0 ⟨_, rfl, tyes ⟨w0, w1, w2, w3, by rw [hlen]; exact n1, by rw [hlen]; exact n4, fun t ht => ?_⟩, rfl⟩ (fun _ => rfl)
 rw [List.take_of_length_le (by rw [hlen]; exact hge)] at hinv
 exact hinv t ht
def onceZ : OnceH := ⟨⟨0, 0, 0, []⟩, ⟨none, 0⟩⟩
def rest (ops : List Op) : Int := if ops.length = 0 then 3 else 0
def start (p : Prog) : State := ⟨p.threads.map fun _ => 0, p.threads.map rest, p.sems.map fun n => ⟨n, n, []⟩, [⟨0, 0, 0, []⟩, ⟨0, 0, 0, []⟩, ⟨0, 0, 0, []⟩], p.groups.map fun n => ⟨n, []⟩, p.barriers.map fun n => ⟨n, 0, []⟩, p.rooms.map fun n => ⟨n, [], [], [], false⟩, [], 0⟩
def State.zero : State := ⟨[], [], [], [], [], [], [], [], 0⟩
def StateH.zero : StateH := ⟨[], [], [], [], [], [], [], [], 0, ⟨none, 0⟩, ⟨none, 0⟩, ⟨none, 0⟩, ⟨none, 0⟩, ⟨none, 0⟩, ⟨none, 0⟩, ⟨none, 0⟩, ⟨none, 0⟩⟩
theorem zero_nil : ∀ g ∈ stateO StateH.zero, nilFact g := by
 intro g hg
 simp [stateO, StateH.zero, semsO, oncesO, groupsO, barriersO, chansO, nestO] at hg
 rcases hg with rfl | rfl | rfl | rfl | rfl | rfl | rfl | rfl <;> exact ⟨rfl, rfl, rfl, rfl⟩
def Started (p : Prog) (v : Value) (L : List Fct) : Prop := ∃ (y : StateH) (b : Bool), v = .tuple #[stateV y, .bool b] ∧ (b = true ↔ ProgOk p) ∧ (b = true → y.pure = start p) ∧ (b = false → y.pure = State.zero) ∧ L = [fO (stateO y)]
theorem nilOf {α : Type} {inner : α → List Fct} {xs : List α} (h : ∀ x ∈ xs, ∀ g ∈ inner x, nilFact g) : ∀ g ∈ xs.flatMap inner, nilFact g := fun g hg => by
 obtain ⟨x, hx, hg⟩ := List.mem_flatMap.1 hg
 exact h x hx g hg
end Go.Proofs.YtjkkoonennpceaaGreat
