/- FnCountTurns: texts that its proof stands on, part 13. -/
import Derived.Test.YtijmjecehppbfaaGreatQCountTurnsl
namespace Go.Proofs.YtijmjecehppbfaaGreat
set_option maxRecDepth 100000
set_option maxHeartbeats 100000000
open Go Go.Sx Go.RowKit
theorem eQ0 {a b : Nat} (h : a ≤ b) : 10 ^ a ≤ 10 ^ b := Nat.pow_le_pow_right (by decide) h
theorem uZ {n : Int} {s : Str} {i : Nat} (h : i < s.length) : uC n (s.drop i) = if (s[i]).toNat < 48 ∨ 57 < (s[i]).toNat then none else uC (n * 10 + (((s[i]).toNat : Int) - 48)) (s.drop (i + 1)) := by
 rw [List.drop_eq_getElem_cons h, uC]
theorem lA0 (s : Str) (w : World) (hb : s.length ≤ 1000000) :
   Calls Tryz.prog 185 #[.string (bs s)] w (Ret w fun v L => v = .tuple #[.int .i64 ((uY s).getD 0), .bool (uY s).isSome] ∧ L = []) := by
 generalize hM : uY s = M
 have hbad : xW s → M = none := fun h => by rw [← hM]; exact if_pos h
 refine bV Tryz.func185 rfl aA w _ rfl _ rfl [] trivial trivial _ (by decide) ?_
 refine fH aA rfl rfl rfl rfl rfl rfl ⟨rfl, rfl⟩ ?_
 apply CaseB.mk <;> intro g
 · have hpos : 0 < s.length := by have := of_decide_eq_true g; omega
   have hh : s.head? = some s[0] := by rw [List.head?_eq_getElem?, List.getElem?_eq_getElem hpos]
   refine jT aA rfl rfl rfl rfl ⟨rfl, rfl⟩ (0) rfl z48 ?_
   refine CaseB.mk (fun g2 => ?_) (fun g2 => ?_)
   refine mG aA rfl rfl rfl ⟨rfl, rfl⟩ rfl rfl (1) (s.length) rfl rfl z48 z48 ?_
   have hn : xV s = true := by rw [xV, hh]; exact decide_eq_true (congrArg some ((dF0 _ 45).1 z98))
   have ht : nS s = (s.drop 1).take (s.length - 1) := by rw [nS, if_pos hn, List.take_of_length_le z92]
   have htl : (nS s).length ≤ 1000000 := by rw [ht]; simp; omega
   generalize (s.drop 1).take (s.length - 1) = t at ht ⊢
   generalize ((s[0].toNat : Int) == 45) = nb at g2 ⊢
   rw [← g2] at hn
   have hbad2 : t.length = 0 ∨ 17 < t.length ∨ (t.head? = some 48 ∧ (1 < t.length ∨ nb = true)) → M = none := fun h => hbad z93
   have hM2 : ¬ (t.length = 0 ∨ 17 < t.length ∨ (t.head? = some 48 ∧ (1 < t.length ∨ nb = true))) → M = (uC 0 t).map fun n => if nb = true then -n else n := fun h => by rw [← hM, uY, if_neg z93, ht, hn]
   rw [ht] at htl
   refine fH aA rfl rfl rfl rfl rfl rfl ⟨rfl, rfl⟩ ?_
   refine CaseB.mk (fun g3 => ?_) (fun g3 => ?_)
   · obtain rfl := hbad2 (.inl (by simpa using g3))
     exact aI ⟨rfl, rfl⟩ (fun _ => rfl)
   refine fH aA rfl rfl rfl rfl rfl rfl ⟨rfl, rfl⟩ ?_
   refine CaseB.mk (fun g4 => ?_) (fun g4 => ?_)
   · obtain rfl := hbad2 (.inr (.inl (by have := of_decide_eq_true g4; omega)))
     exact aI ⟨rfl, rfl⟩ (fun _ => rfl)
   have hp0 : 0 < t.length := by have h : ¬ (t.length : Int) = 0 := (by simpa using g3); omega
   have h17 : t.length ≤ 17 := by have := of_decide_eq_false g4; omega
   have hh2 : t.head? = some t[0] := by rw [List.head?_eq_getElem?, List.getElem?_eq_getElem hp0]
   refine jT aA rfl rfl rfl rfl ⟨rfl, rfl⟩ (0) rfl z48 ?_
   refine CaseB.mk (fun g5 => ?_) (fun g5 => ?_)
   · have e5 : t[0] = 48 := (dF0 _ 48).1 (by simpa using g5)
     obtain rfl := hbad2 (.inr (.inr ⟨by rw [hh2, e5], .inr g2⟩))
     refine fH aA rfl rfl rfl rfl rfl rfl ⟨rfl, rfl⟩ ?_
     refine CaseB.mk (fun g6 => ?_) (fun g6 => ?_)
     · exact aI ⟨rfl, rfl⟩ (fun _ => rfl)
     refine CaseB.mk (fun g7 => ?_) (fun g7 => ?_)
     · exact aI ⟨rfl, rfl⟩ (fun _ => rfl)
     rw [g2] at g7; cases g7
   have hg : ¬ (t.length = 0 ∨ 17 < t.length ∨ (t.head? = some 48 ∧ (1 < t.length ∨ nb = true))) := by
     rintro (h | h | ⟨h, h'⟩)
     · omega
     · omega
     · rw [hh2] at h; rw [Option.some.inj h] at g5; simp at g5
   rotate_left
   have hn : xV s = false := by rw [xV, hh]; exact decide_eq_false (fun h => by rw [Option.some.inj h] at g2; simp at g2)
   have ht : nS s = s := by rw [nS, if_neg (by rw [hn]; decide)]
   have htl : (nS s).length ≤ 1000000 := by rw [ht]; exact hb
   generalize ((s[0].toNat : Int) == 45) = nb at g2 ⊢
   rw [← g2] at hn
   obtain ⟨t, rfl⟩ : ∃ t, t = s := ⟨s, rfl⟩
   have hbad2 : t.length = 0 ∨ 17 < t.length ∨ (t.head? = some 48 ∧ (1 < t.length ∨ nb = true)) → M = none := fun h => hbad z93
   have hM2 : ¬ (t.length = 0 ∨ 17 < t.length ∨ (t.head? = some 48 ∧ (1 < t.length ∨ nb = true))) → M = (uC 0 t).map fun n => if nb = true then -n else n := fun h => by rw [← hM, uY, if_neg z93, ht, hn]
   rw [ht] at htl
   refine fH aA rfl rfl rfl rfl rfl rfl ⟨rfl, rfl⟩ ?_
   refine CaseB.mk (fun g3 => ?_) (fun g3 => ?_)
   · obtain rfl := hbad2 (.inl (by simpa using g3))
     exact aI ⟨rfl, rfl⟩ (fun _ => rfl)
   refine fH aA rfl rfl rfl rfl rfl rfl ⟨rfl, rfl⟩ ?_
   refine CaseB.mk (fun g4 => ?_) (fun g4 => ?_)
   · obtain rfl := hbad2 (.inr (.inl (by have := of_decide_eq_true g4; omega)))
     exact aI ⟨rfl, rfl⟩ (fun _ => rfl)
   have hp0 : 0 < t.length := by have h : ¬ (t.length : Int) = 0 := (by simpa using g3); omega
   have h17 : t.length ≤ 17 := by have := of_decide_eq_false g4; omega
   have hh2 : t.head? = some t[0] := by rw [List.head?_eq_getElem?, List.getElem?_eq_getElem hp0]
   refine jT aA rfl rfl rfl rfl ⟨rfl, rfl⟩ (0) rfl z48 ?_
   refine CaseB.mk (fun g5 => ?_) (fun g5 => ?_)
   refine fH aA rfl rfl rfl rfl rfl rfl ⟨rfl, rfl⟩ ?_
   refine CaseB.mk (fun g6 => ?_) (fun g6 => ?_)
   · have e5 : t[0] = 48 := (dF0 _ 48).1 (by simpa using g5)
     obtain rfl := hbad2 (.inr (.inr ⟨by rw [hh2, e5], .inl (by have := of_decide_eq_true g6; omega)⟩))
     exact aI ⟨rfl, rfl⟩ (fun _ => rfl)
   refine CaseB.mk (fun g7 => ?_) (fun g7 => ?_)
   · rw [g2] at g7; cases g7
   have hg : ¬ (t.length = 0 ∨ 17 < t.length ∨ (t.head? = some 48 ∧ (1 < t.length ∨ nb = true))) := by
     rintro (h | h | ⟨h, h'⟩)
     · omega
     · omega
     · have := of_decide_eq_false g6
       rcases h' with h' | h'
       · omega
       · rw [g7] at h'; cases h'
   rotate_left
   have hg : ¬ (t.length = 0 ∨ 17 < t.length ∨ (t.head? = some 48 ∧ (1 < t.length ∨ nb = true))) := by
     rintro (h | h | ⟨h, h'⟩)
     · omega
     · omega
     · rw [hh2] at h; rw [Option.some.inj h] at g5; simp at g5
   rotate_left
   all_goals
     have hG := hM2 hg
     refine LoopW.mk ⟨{ q : Nat × Int // q.1 ≤ t.length ∧ uC 0 t = uC q.2 (t.drop q.1) ∧ 0 ≤ q.2 ∧ q.2 < ((10 ^ q.1 : Nat) : Int) },
       fun q => .mk [(0, .v (.string (bs t))), (4, .v (.bool nb)), (5, .v (.int .i64 q.1.2)), (6, .v (.int .i64 (q.1.1 : Int)))] 0 0 [] [] [],
       fun q => t.length - q.1.1, ⟨(0, 0), Nat.zero_le _, rfl, by decide, by decide⟩, ?_, ?_⟩
     · exact aC [] zw2 zw0 zw2 zw5 zw4 rfl rfl
     rintro ⟨⟨i, n⟩, i1, i2, i3, i4⟩
     simp only at i1 i2 i3 i4 ⊢
     have hno : uC 0 t = none → M = none := fun h => by rw [hG, h]; rfl
     refine fH aA rfl rfl rfl rfl rfl rfl ⟨rfl, rfl⟩ ?_
     refine CaseB.mk (fun gi => ?_) (fun gi => ?_)
     · have hlt : i < t.length := by have := of_decide_eq_true gi; omega
       have hw := bE i _ hlt (by omega)
       refine jT aA rfl rfl rfl rfl ⟨rfl, rfl⟩ (i) rfl z48 ?_
       refine CaseB.mk (fun g8 => ?_) (fun g8 => ?_)
       · obtain rfl := hno (by rw [i2, uZ hlt, if_pos (.inl (by have := of_decide_eq_true g8; omega))])
         exact aI ⟨rfl, rfl⟩ (fun _ => rfl)
       refine jT aA rfl rfl rfl rfl ⟨rfl, rfl⟩ (i) rfl z48 ?_
       refine CaseB.mk (fun g9 => ?_) (fun g9 => ?_)
       · obtain rfl := hno (by rw [i2, uZ hlt, if_pos (.inr (by have := of_decide_eq_true g9; omega))])
         exact aI ⟨rfl, rfl⟩ (fun _ => rfl)
       have d0 : 48 ≤ (t[i].toNat : Int) := by have := of_decide_eq_false g8; omega
       have d9 : (t[i].toNat : Int) ≤ 57 := by have := of_decide_eq_false g9; omega
       have hp := eQ0 (show i ≤ 16 by omega)
       have hp2 : 10 ^ (i + 1) = 10 ^ i * 10 := Nat.pow_succ ..
       have e16 : 10 ^ 16 = 10000000000000000 := rfl
       have hv : IntKind.i64.wrap (IntKind.i64.wrap (n * 10) + IntKind.i64.wrap (IntKind.u8.wrap ((t[i].toNat : Int) - 48))) = n * 10 + ((t[i].toNat : Int) - 48) := by
         have w1 : IntKind.i64.wrap (n * 10) = n * 10 := cV (by omega) (by omega)
         have w2 : IntKind.u8.wrap ((t[i].toNat : Int) - 48) = (t[i].toNat : Int) - 48 := by rw [IntKind.wrap_u8]; omega
         have w3 : IntKind.i64.wrap ((t[i].toNat : Int) - 48) = (t[i].toNat : Int) - 48 := cV (by omega) (by omega)
         rw [w1, w2, w3, cV (by omega) (by omega)]
       refine jT aA rfl rfl rfl rfl ⟨rfl, rfl⟩ (i) rfl z48 ?_
       refine ⟨⟨(i + 1, n * 10 + ((t[i].toNat : Int) - 48)), hlt, ?_, show (0 : Int) ≤ n * 10 + ((t[i].toNat : Int) - 48) by omega, show n * 10 + ((t[i].toNat : Int) - 48) < ((10 ^ (i + 1) : Nat) : Int) by omega⟩, ?_, by simp only; omega⟩
       · rw [i2, uZ hlt, if_neg (by omega)]
       · refine aC [] ?_ ?_ ?_ ?_ ?_ rfl rfl
         · exact zw23
         · exact zw0
         · exact zw23
         · exact zw5
         · repeat (first | exact trivial | refine ⟨.inl ⟨_, rfl, (by first | rfl | ((first | exact congrArg (fun z => SV.v (Value.int .i64 z)) hw | exact congrArg (fun z => SV.v (Value.int .i64 z)) hv)))⟩, ?_⟩ | refine ⟨.inr z146, ?_⟩)
     have hge : t.length ≤ i := by have := of_decide_eq_false gi; omega
     rw [List.drop_eq_nil_of_le hge] at i2
     have hMn : M = some (if nb = true then -n else n) := by rw [hG, i2]; rfl
     refine CaseB.mk (fun gn => ?_) (fun gn => ?_)
     · rw [hMn, gn]
       have hp := eQ0 (show i ≤ 17 by omega)
       have e17 : 10 ^ 17 = 100000000000000000 := rfl
       have hw : IntKind.i64.wrap (0 - n) = -n := by rw [IntKind.wrap_i64]; omega
       exact bC [] (v := .tuple #[.int .i64 (IntKind.i64.wrap (0 - n)), .bool true]) ⟨by rw [hw]; rfl, rfl⟩ trivial rfl trivial (fun _ => rfl)
     · rw [hMn, gn]
       exact aI ⟨rfl, rfl⟩ (fun _ => rfl)
 obtain rfl : s = [] := List.eq_nil_of_length_eq_zero z90
 obtain rfl := hbad (.inl rfl)
 refine fH aA rfl rfl rfl rfl rfl rfl ⟨rfl, rfl⟩ ?_
 refine CaseB.mk (fun g3 => ?_) (fun g3 => by simp at g3)
 exact aI ⟨rfl, rfl⟩ (fun _ => rfl)
theorem qM (k : Int) (w : World) : Calls Tryz.prog 198 #[.int .i64 k] w (Ret w fun v L => v = .int .i64 (iS k) ∧ L = []) := by
 refine bV Tryz.func198 rfl aA w _ rfl _ rfl [] trivial trivial _ (by decide) ?_
 repeat' (refine CaseB.mk (fun h => ?_) (fun h => ?_))
 all_goals
   simp only [beq_iff_eq, beq_eq_false_iff_ne] at *
   first
     | (exfalso; omega)
     | (refine aI ⟨?_, rfl⟩ (fun _ => rfl); simp [iS, *])
theorem lB0 (k : Int) (w : World) : Calls Tryz.prog 189 #[.int .i64 k] w (Ret w fun v L => v = .string (bs (fS k)) ∧ L = []) := by
 refine bV Tryz.func189 rfl aA w _ rfl _ rfl [] trivial trivial _ (by decide) ?_
 refine AllSl.mk fun l => ?_
 refine CaseB.mk (fun h => ?_) (fun h => ?_)
 · have e : fS k = [] := if_pos (.inl (by have := of_decide_eq_true h; omega))
   rw [e]
   exact aI ⟨rfl, rfl⟩ (fun _ => rfl)
 refine CaseB.mk (fun h2 => ?_) (fun h2 => ?_)
 · have e : fS k = [] := if_pos (.inr (by have := of_decide_eq_true h2; omega))
   rw [e]
   exact aI ⟨rfl, rfl⟩ (fun _ => rfl)
 have h1 : 1 ≤ k := by have := of_decide_eq_false h; omega
 have h10 : k ≤ 10 := by have := of_decide_eq_false h2; omega
 obtain ⟨j, rfl⟩ : ∃ j : Nat, k = j := ⟨k.toNat, (Int.toNat_of_nonneg (by omega)).symm⟩
 have hj : j < wordsL.length := by show j < 11; omega
 have e : fS (j : Int) = wordsL[j] := by rw [fS, if_neg (by omega), Int.toNat_natCast, List.getD_eq_getElem?_getD, List.getElem?_eq_getElem hj]; rfl
 rw [e]
 refine aG kM (xs := wordsL) aA rfl rfl rfl rfl rfl ⟨rfl, rfl⟩ (bU 0 rfl) j rfl hj (fun ad => ?_)
 exact aI ⟨rfl, rfl⟩ (fun _ => rfl)
theorem dG0 {G : List Fct} (k : Nat) {old : Bool} {i : Sl} {e m : Nat} {cs : List Value} {s : Str} (hk : G[k]? = some (jU old i e 1 cs m)) (hm : m = s.length) (hc : cs = s.map fun b => .int .u8 (b.toNat : Int)) : ∀ w, (∀ f ∈ G, f.P w) → RdS w i 1 (s.map fun b => .int .u8 (b.toNat : Int)) s.length := by
 subst hm; subst hc; exact bU k hk
theorem hX0 (f n : Nat) (out : Str) (h : 9 < n) : sQ (f + 1) n out = sQ f (n / 10) (UInt8.ofNat (48 + n % 10) :: out) := if_pos h
theorem nQ0 (d : Nat) (h : d < 10) : IntKind.u8.wrap (IntKind.i64.wrap (48 + (d : Int))) = ((UInt8.ofNat (48 + d)).toNat : Int) := by
 have e : (UInt8.ofNat (48 + d)).toNat = 48 + d := by rw [UInt8.toNat_ofNat']; omega
 rw [e, cV (by omega) (by omega), IntKind.wrap_u8]; omega
theorem lC0 (n : Nat) (w : World) (hn : n < 1000000000000000000) : Calls Tryz.prog 197 #[.int .i64 (n : Int)] w (Ret w fun v L => v = .string (bs (sQ 19 n [])) ∧ L = []) := by
 refine bV Tryz.func197 rfl aA w _ rfl _ rfl [] trivial trivial _ (by decide) ?_
 refine CaseB.mk (fun g => by have := of_decide_eq_true g; omega) (fun _ => ?_)
 refine CaseB.mk (fun g => by have := of_decide_eq_true g; omega) (fun _ => ?_)
 refine LoopW.mk ⟨{ q : Nat × Nat × Str // sQ 19 n [] = sQ q.1 q.2.1 q.2.2 ∧ q.2.1 < 10 ^ q.1 ∧ 1 ≤ q.1 ∧ q.2.2.length + q.1 ≤ 19 ∧ q.2.1 < 1000000000000000000 },
   fun q => .mk [(0, .v (.int .i64 (q.1.2.1 : Int))), (3, .v (.string (bs q.1.2.2)))] 0 0 [] [] [],
   fun q => q.1.1, ⟨(19, n, []), rfl, by show n < 10 ^ 19; omega, by show 1 ≤ 19; omega, by simp, hn⟩, ?_, ?_⟩
 · exact aC [] zw2 zw0 zw2 zw5 zw4 rfl rfl
 rintro ⟨⟨f, m, out⟩, i1, i2, i3, i4, i5⟩
 simp only at i1 i2 i3 i4 i5 ⊢
 apply CaseB.mk <;> intro g
 · have h9 : 9 < m := by have := of_decide_eq_true g; omega
   obtain ⟨f, rfl⟩ : ∃ f', f = f' + 1 := ⟨f - 1, by omega⟩
   have hp : 10 ^ (f + 1) = 10 ^ f * 10 := Nat.pow_succ ..
   have hf : 1 ≤ f := by
     rcases Nat.eq_zero_or_pos f with h | h
     · subst h; simp at i2; omega
     · exact h
   refine cK rfl rfl rfl ⟨rfl, rfl⟩ (.int .i64 ((m % 10 : Nat) : Int)) (fun w => eD w) (fun w => qU (by omega) (by rw [Int.tmod_eq_emod_of_nonneg (by omega)]; omega) w) ?_
   refine AllSl.mk fun b => ?_
   refine dE0 (s := [UInt8.ofNat (48 + m % 10)]) aA rfl rfl rfl rfl rfl ⟨rfl, rfl⟩ (dG0 0 rfl rfl (by rw [nQ0 (m % 10) (by omega)]; rfl)) (Nat.zero_lt_one) ?_
   refine cK rfl rfl rfl ⟨rfl, rfl⟩ (.string (bs ([UInt8.ofNat (48 + m % 10)] ++ out))) (fun w => bI w) (fun w => dA z64 w) ?_
   refine cK rfl rfl rfl ⟨rfl, rfl⟩ (.int .i64 ((m / 10 : Nat) : Int)) (fun w => eD w) (fun w => aP0 (by omega) (by rw [Int.tdiv_eq_ediv_of_nonneg (by omega), cV (by omega) (by omega)]; omega) w) ?_
   refine ⟨⟨(f, m / 10, UInt8.ofNat (48 + m % 10) :: out), i1.trans (hX0 f m out h9), show m / 10 < 10 ^ f by omega, hf, by simp only [List.length_cons]; omega, show m / 10 < 1000000000000000000 by omega⟩, ?_, by simp only; omega⟩
   exact aC [] zw2 zw0 zw2 zw5 zw4 rfl rfl
 have h9 : m ≤ 9 := by have := of_decide_eq_false g; omega
 obtain ⟨f, rfl⟩ : ∃ f', f = f' + 1 := ⟨f - 1, by omega⟩
 refine AllSl.mk fun b => ?_
 refine dE0 (s := [UInt8.ofNat (48 + m)]) aA rfl rfl rfl rfl rfl ⟨rfl, rfl⟩ (dG0 0 rfl rfl (by rw [nQ0 m (by omega)]; rfl)) (Nat.zero_lt_one) ?_
 refine cK rfl rfl rfl ⟨rfl, rfl⟩ (.string (bs ([UInt8.ofNat (48 + m)] ++ out))) (fun w => bI w) (fun w => dA z64 w) ?_
 have e : sQ 19 n [] = [UInt8.ofNat (48 + m)] ++ out := by rw [i1, sQ, if_neg (by omega)]; rfl
 rw [e]
 exact aI ⟨rfl, rfl⟩ (fun _ => rfl)
theorem dH0 (n : Int) (w : World) (h1 : -1000000000000000000 < n) (h2 : n < 1000000000000000000) : Calls Tryz.prog 197 #[.int .i64 n] w (Ret w fun v L => v = .string (bs (lL n)) ∧ L = []) := by
 by_cases hn : 0 ≤ n
 · obtain ⟨k, rfl⟩ : ∃ k : Nat, n = k := ⟨n.toNat, (Int.toNat_of_nonneg hn).symm⟩
   have e : lL (k : Int) = sQ 19 k [] := by rw [lL, if_neg (by omega)]; rfl
   rw [e]
   exact lC0 k w (by omega)
 obtain ⟨k, rfl⟩ : ∃ k : Nat, n = -(k : Int) := ⟨(-n).toNat, by omega⟩
 have e : lL (-(k : Int)) = [45] ++ sQ 19 k [] := by
   rw [lL, if_pos (by omega), show (-(k : Int)).natAbs = k by omega]; rfl
 rw [e]
 have hw : IntKind.i64.wrap (0 - -(k : Int)) = (k : Int) := by rw [cV] <;> omega
 refine bV Tryz.func197 rfl aA w _ rfl _ rfl [] trivial trivial _ (by decide) ?_
 refine CaseB.mk (fun g => by have := of_decide_eq_true g; omega) (fun _ => ?_)
 refine CaseB.mk (fun g => ?_) (fun g => by have := of_decide_eq_false g; omega)
 refine aB _ yN rfl rfl rfl rfl ⟨rfl, rfl⟩ (fun A w hW => (by rw [hw]; exact lC0 k w (by omega))) ?_
 rintro v L ⟨rfl, rfl⟩
 have hl := uD 19 k []
 refine cK rfl rfl rfl ⟨rfl, rfl⟩ (.string (bs ([45] ++ (sQ 19 k [])))) (fun w => bI w) (fun w => dA (by simp only [List.length_cons, List.length_nil] at hl ⊢; omega) w) ?_
 exact aI ⟨rfl, rfl⟩ (fun _ => rfl)
theorem zT (k : Int) : iS k = 0 ∨ iS k = 1 ∨ iS k = 2 := by
 unfold iS
 split
 · exact .inr (.inl rfl)
 · split
   · exact .inl rfl
   · exact .inr (.inr rfl)
theorem gI0 {ns : List Int} (h : ns.length = 1) : ∃ a, ns = [a] := by
 match ns, h with
 | [a], _ => exact ⟨a, rfl⟩
theorem mM0 {ns : List Int} (h : ns.length = 2) : ∃ a b, ns = [a, b] := by
 match ns, h with
 | [a, b], _ => exact ⟨a, b, rfl⟩
theorem vA {k : Int} {ns : List Int} (h : (iS k = 0 ∨ iS k = 1) → ns.length ≠ 1) (h2 : iS k = 2 → ns.length ≠ 2) : nE k ns = none := by
 unfold nE
 rcases zT k with e | e | e
 · rw [if_pos e]
   split
   · exact (h (.inl e) rfl).elim
   · rfl
 · rw [if_neg (by omega), if_pos e]
   split
   · exact (h (.inr e) rfl).elim
   · rfl
 · rw [if_neg (by omega), if_neg (by omega)]
   split
   · exact (h2 e rfl).elim
   · rfl
theorem oV0 (k : Int) (i : Sl) (ns : List Int) (w : World) (h : At w [slo i aJ 1 ns]) :
   Calls Tryz.prog 196 #[.int .i64 k, i.val ns.length] w (Ret w fun v L => v = .tuple #[.agg (cOp ((nE k ns).getD Op0)).toArray, .bool (nE k ns).isSome] ∧ L = []) := by
 refine cM Tryz.func196 rfl aA w _ rfl _ rfl _ h ⟨rfl, rfl, trivial⟩ _ _ (by decide) ?_
 refine aB _ vI rfl rfl rfl rfl ⟨rfl, rfl⟩ (fun A w hW => (qM k w)) ?_
 rintro v L ⟨rfl, rfl⟩
 apply CaseB.mk <;> intro g
 · have a0 : iS k = 0 := by simpa using g
   refine CaseB.mk (fun g2 => ?_) (fun g2 => ?_)
   · obtain ⟨a, rfl⟩ := gI0 (ns := ns) (by have g' : (ns.length : Int) = 1 := z98; omega)
     refine aG aD aA rfl rfl rfl rfl rfl ⟨rfl, rfl⟩ z40 0 rfl z48 (fun ad => ?_)
     have e : nE k [a] = some ⟨k, 0, a⟩ := by rw [nE, if_pos a0]
     rw [e]
     exact aI ⟨rfl, rfl⟩ (fun _ => rfl)
   have hl : ns.length ≠ 1 := fun h => by rw [h] at g2; simp at g2
   rw [vA (fun _ => hl) (fun e => by omega)]
   refine aB _ vI rfl rfl rfl rfl ⟨rfl, rfl⟩ (fun A w hW => (qM k w)) ?_
   rintro v L ⟨rfl, rfl⟩
   refine CaseB.mk (fun g3 => by rw [a0] at g3; simp at g3) (fun _ => ?_)
   refine aB _ vI rfl rfl rfl rfl ⟨rfl, rfl⟩ (fun A w hW => (qM k w)) ?_
   rintro v L ⟨rfl, rfl⟩
   refine CaseB.mk (fun g3 => by rw [a0] at g3; simp at g3) (fun _ => ?_)
   exact aI ⟨rfl, rfl⟩ (fun _ => rfl)
 have n0 : ¬ iS k = 0 := by simpa using g
 refine aB _ vI rfl rfl rfl rfl ⟨rfl, rfl⟩ (fun A w hW => (qM k w)) ?_
 rintro v L ⟨rfl, rfl⟩
 apply CaseB.mk <;> intro g
 · have a0 : iS k = 1 := by simpa using g
   refine CaseB.mk (fun g2 => ?_) (fun g2 => ?_)
   · obtain ⟨a, rfl⟩ := gI0 (ns := ns) (by have g' : (ns.length : Int) = 1 := z98; omega)
     refine aG aD aA rfl rfl rfl rfl rfl ⟨rfl, rfl⟩ z40 0 rfl z48 (fun ad => ?_)
     have e : nE k [a] = some ⟨k, a, 0⟩ := by rw [nE, if_neg n0, if_pos a0]
     rw [e]
     exact aI ⟨rfl, rfl⟩ (fun _ => rfl)
   have hl : ns.length ≠ 1 := fun h => by rw [h] at g2; simp at g2
   rw [vA (fun _ => hl) (fun e => by omega)]
   refine aB _ vI rfl rfl rfl rfl ⟨rfl, rfl⟩ (fun A w hW => (qM k w)) ?_
   rintro v L ⟨rfl, rfl⟩
   refine CaseB.mk (fun g3 => by rw [a0] at g3; simp at g3) (fun _ => ?_)
   exact aI ⟨rfl, rfl⟩ (fun _ => rfl)
 have n1 : ¬ iS k = 1 := by simpa using g
 have a2 : iS k = 2 := by have := zT k; omega
 refine aB _ vI rfl rfl rfl rfl ⟨rfl, rfl⟩ (fun A w hW => (qM k w)) ?_
 rintro v L ⟨rfl, rfl⟩
 refine CaseB.mk (fun g => ?_) (fun g => by rw [a2] at g; simp at g)
 refine CaseB.mk (fun g2 => ?_) (fun g2 => ?_)
 · obtain ⟨a, b, rfl⟩ := mM0 (ns := ns) (by have g' : (ns.length : Int) = 2 := z98; omega)
   refine aG aD aA rfl rfl rfl rfl rfl ⟨rfl, rfl⟩ z40 0 rfl z48 (fun ad => ?_)
   refine aG aD aA rfl rfl rfl rfl rfl ⟨rfl, rfl⟩ z40 1 rfl z48 (fun ad => ?_)
   have e : nE k [a, b] = some ⟨k, a, b⟩ := by rw [nE, if_neg n0, if_neg n1]
   rw [e]
   exact aI ⟨rfl, rfl⟩ (fun _ => rfl)
 have hl : ns.length ≠ 2 := fun h => by rw [h] at g2; simp at g2
 rw [vA (fun e => by omega) (fun _ => hl)]
 exact aI ⟨rfl, rfl⟩ (fun _ => rfl)
def Op.near (o : Op) : Prop := -1000000000000000000 < o.on ∧ o.on < 1000000000000000000 ∧ -1000000000000000000 < o.arg ∧ o.arg < 1000000000000000000
theorem bP0 (o : Op) (w : World) (hn : o.near) :
   Calls Tryz.prog 188 #[.agg (cOp o).toArray] w (Ret w fun v L => v = .string (bs (gA o)) ∧ L = []) := by
 obtain ⟨h1, h2, h3, h4⟩ := hn
 have lw := zS o.kind
 have l1 := oP o.on
 have l2 := oP o.arg
 refine bV Tryz.func188 rfl aA w _ rfl _ rfl [] trivial trivial _ (by decide) ?_
 refine aB _ jB0 rfl rfl rfl rfl ⟨rfl, rfl⟩ (fun A w hW => (lB0 o.kind w)) ?_
 rintro v L ⟨rfl, rfl⟩
 refine cK rfl rfl rfl ⟨rfl, rfl⟩ (.bool ((fS o.kind) == [])) (fun w => bI w) (fun w => wK w) ?_
 apply CaseB.mk <;> intro g
 · have e : gA o = [] := if_pos z103
   rw [e]
   exact aI ⟨rfl, rfl⟩ (fun _ => rfl)
 have e0 : fS o.kind ≠ [] := by simpa using g
 refine aB _ vI rfl rfl rfl rfl ⟨rfl, rfl⟩ (fun A w hW => (qM o.kind w)) ?_
 rintro v L ⟨rfl, rfl⟩
 apply CaseB.mk <;> intro g
 · have a0 : iS o.kind = 0 := by simpa using g
   refine cK rfl rfl rfl ⟨rfl, rfl⟩ (.string (bs ((fS o.kind) ++ [32]))) (fun w => bI w) (fun w => dA z83 w) ?_
   refine aB _ yN rfl rfl rfl rfl ⟨rfl, rfl⟩ (fun A w hW => (dH0 o.arg w h3 h4)) ?_
   rintro v L ⟨rfl, rfl⟩
   refine cK rfl rfl rfl ⟨rfl, rfl⟩ (.string (bs ((fS o.kind ++ [32]) ++ (lL o.arg)))) (fun w => bI w) (fun w => dA z64 w) ?_
   have e : gA o = (fS o.kind ++ [32]) ++ lL o.arg := by rw [gA, if_neg e0, if_pos a0]
   rw [e]
   exact aI ⟨rfl, rfl⟩ (fun _ => rfl)
 have n0 : ¬ iS o.kind = 0 := by simpa using g
 refine aB _ vI rfl rfl rfl rfl ⟨rfl, rfl⟩ (fun A w hW => (qM o.kind w)) ?_
 rintro v L ⟨rfl, rfl⟩
 apply CaseB.mk <;> intro g
 · have a1 : iS o.kind = 1 := by simpa using g
   refine cK rfl rfl rfl ⟨rfl, rfl⟩ (.string (bs ((fS o.kind) ++ [32]))) (fun w => bI w) (fun w => dA z83 w) ?_
   refine aB _ yN rfl rfl rfl rfl ⟨rfl, rfl⟩ (fun A w hW => (dH0 o.on w h1 h2)) ?_
   rintro v L ⟨rfl, rfl⟩
   refine cK rfl rfl rfl ⟨rfl, rfl⟩ (.string (bs ((fS o.kind ++ [32]) ++ (lL o.on)))) (fun w => bI w) (fun w => dA z64 w) ?_
   have e : gA o = (fS o.kind ++ [32]) ++ lL o.on := by rw [gA, if_neg e0, if_neg n0, if_pos a1]
   rw [e]
   exact aI ⟨rfl, rfl⟩ (fun _ => rfl)
 have n1 : ¬ iS o.kind = 1 := by simpa using g
 have e : gA o = (((fS o.kind ++ [32]) ++ lL o.on) ++ [32]) ++ lL o.arg := by rw [gA, if_neg e0, if_neg n0, if_neg n1]
 rw [e]
 refine aE aA z107 z107 z107 200 [((0, 1), .v (.int .i64 o.on)), ((0, 2), .v (.int .i64 o.arg))] [] [] z142 z152 trivial rfl ?_
 refine mM rfl rfl rfl ⟨rfl, rfl⟩ (.string (bs ((fS o.kind) ++ [32]))) (fun w => bI w) (fun w => dA z83 w) ?_
 refine bL _ yN rfl rfl rfl rfl ⟨rfl, rfl⟩ (fun A w hW => (dH0 o.on w h1 h2)) ?_
 rintro v L ⟨rfl, rfl⟩
 refine mM rfl rfl rfl ⟨rfl, rfl⟩ (.string (bs ((fS o.kind ++ [32]) ++ (lL o.on)))) (fun w => bI w) (fun w => dA z64 w) ?_
 refine mM rfl rfl rfl ⟨rfl, rfl⟩ (.string (bs (((fS o.kind ++ [32]) ++ lL o.on) ++ [32]))) (fun w => bI w) (fun w => dA z64 w) ?_
 refine bL _ yN rfl rfl rfl rfl ⟨rfl, rfl⟩ (fun A w hW => (dH0 o.arg w h3 h4)) ?_
 rintro v L ⟨rfl, rfl⟩
 refine mM rfl rfl rfl ⟨rfl, rfl⟩ (.string (bs ((((fS o.kind ++ [32]) ++ lL o.on) ++ [32]) ++ (lL o.arg)))) (fun w => bI w) (fun w => dA z64 w) ?_
 exact aI ⟨rfl, rfl⟩ (fun _ => rfl)
theorem zU : ∀ (s : Str) (n m : Int) (k : Nat), 0 ≤ n → n < ((10 ^ k : Nat) : Int) → uC n s = some m → 0 ≤ m ∧ m < ((10 ^ (k + s.length) : Nat) : Int)
 | [], n, m, k, h0, h1, h => by simp only [uC, Option.some.injEq] at h; subst h; exact ⟨h0, h1⟩
 | x :: r, n, m, k, h0, h1, h => by
   simp only [uC] at h
   split at h
   · cases h
   · have hp : 10 ^ (k + 1) = 10 ^ k * 10 := Nat.pow_succ ..
     have := zU r (n * 10 + ((x.toNat : Int) - 48)) m (k + 1) (by omega) (by omega) h
     rw [show k + (x :: r).length = k + 1 + r.length by simp only [List.length_cons]; omega]
     exact this
def xX (n : Int) : Prop := -1000000000000000000 < n ∧ n < 1000000000000000000
theorem hY0 {s : Str} {n : Int} (h : uY s = some n) : xX n := by
 unfold uY at h
 split at h
 · cases h
 · rename_i hb
   have hl : (nS s).length ≤ 17 := Nat.le_of_not_lt fun h => hb (.inr (.inl h))
   cases e : uC 0 (nS s) with
   | none => rw [e] at h; cases h
   | some m =>
     rw [e] at h
     have h2 := zU _ 0 m 0 (by omega) (by decide) e
     have hp := eQ0 (show 0 + (nS s).length ≤ 17 by omega)
     have e17 : 10 ^ 17 = 100000000000000000 := rfl
     simp only [Option.map_some, Option.some.injEq] at h
     subst h
     unfold xX
     split <;> omega
theorem eR0 {k : Int} {ns : List Int} {o : Op} (hn : ∀ x ∈ ns, xX x) (h : nE k ns = some o) : o.near := by
 have z : xX 0 := ⟨by decide, by decide⟩
 unfold nE at h
 split at h
 · split at h
   · rename_i a; cases h; have := hn a (by simp); exact ⟨z.1, z.2, this.1, this.2⟩
   · cases h
 · split at h
   · split at h
     · rename_i a; cases h; have := hn a (by simp); exact ⟨this.1, this.2, z.1, z.2⟩
     · cases h
   · split at h
     · rename_i a b; cases h; have h1 := hn a (by simp); have h2 := hn b (by simp); exact ⟨h1.1, h1.2, h2.1, h2.2⟩
     · cases h
theorem eS0 (t w : Str) (ns : List Int) (f k : Nat) : pK t w ns (f + 1) k = if fS k = w then match nE k ns with | some o => if gA o = t then some o else pK t w ns f (k + 1) | none => pK t w ns f (k + 1) else pK t w ns f (k + 1) := rfl
theorem dI0 {s : Str} {r : List Str} : gL (s :: r) = match uY s with | none => none | some n => match gL r with | none => none | some l => some (n :: l) := rfl
def lT (ns : List Int) (o : Option (List Int)) : Option (List Int) := match o with | none => none | some l => some (ns ++ l)
theorem vT {ns : List Int} {s : Str} {r : List Str} {n : Int} (h : uY s = some n) : lT ns (gL (s :: r)) = lT (ns ++ [n]) (gL r) := by
 rw [dI0, h]
 cases gL r with
 | none => rfl
 | some l => simp [lT]
theorem vU {ns : List Int} {s : Str} {r : List Str} (h : uY s = none) : lT ns (gL (s :: r)) = none := by
 rw [dI0, h]; rfl
theorem drop_take {α : Type} {xs : List α} {i m : Nat} (h : i < xs.length) : (xs.drop i).take (m + 1) = xs[i] :: (xs.drop (i + 1)).take m := by
 rw [List.drop_eq_getElem_cons h, List.take_succ_cons]
theorem zV (t : Str) (w : World) (hb : t.length ≤ 1000) :
   Calls Tryz.prog 186 #[.string (bs t)] w (Ret w fun v L => v = .tuple #[.agg (cOp ((eX t).getD Op0)).toArray, .bool (eX t).isSome] ∧ L = []) := by
 have hcl := uB 32 t
 have hpt : ∀ x ∈ gI 32 t, x.length ≤ 1000 := fun x hx => Nat.le_trans (rF hx) hb
 have hno : gL (((gI 32 t).drop 1).take 3) = none → eX t = none := fun h => by rw [eX, h]
 have hyes : ∀ ns, gL (((gI 32 t).drop 1).take 3) = some ns → eX t = if ns.length + 1 = (gI 32 t).length then pK t ((gI 32 t).headD []) ns 10 1 else none := fun ns h => by rw [eX, h]
 generalize eX t = M at hno hyes ⊢
 refine bV Tryz.func186 rfl aA w _ rfl _ rfl [] trivial trivial _ (by decide) ?_
 refine aB _ fK0 rfl rfl rfl rfl ⟨rfl, rfl⟩ (fun A w hW => (gH0 t 32 w (by omega))) ?_
 rintro v L ⟨y, rfl, rfl⟩
 generalize gI 32 t = ps at hcl hpt hno hyes ⊢
 refine AllSl.mk fun l0 => ?_
 refine LoopW.mk ⟨{ q : Nat × Sl × List Int // 1 ≤ q.1 ∧ q.1 ≤ 4 ∧ q.1 ≤ ps.length ∧ gL ((ps.drop 1).take 3) = lT q.2.2 (gL ((ps.drop q.1).take (4 - q.1))) ∧ q.2.2.length + 1 = q.1 ∧ ∀ x ∈ q.2.2, xX x },
   fun q => .mk [(0, .v (.string (bs t))), (2, .p 0 0), (4, .v (y.val ps.length)), (5, .v (q.1.2.1.val q.1.2.2.length)), (6, .v (.int .i64 (q.1.1 : Int)))] 1 0 [(0, 65, 3)] [] [own q.1.2.1 3 aJ 1 q.1.2.2, own y 9 xT 1 ps],
   fun q => 4 - q.1.1, ⟨(1, l0, []), Nat.le_refl _, by show 1 ≤ 4; omega, hcl.1, by simp only [lT, List.nil_append]; cases gL ((ps.drop 1).take (4 - 1)) <;> rfl, rfl, by simp⟩, ?_, ?_⟩
 · exact aC [0, 1] zw2 zw0 zw2 zw5 zw4 rfl rfl
 rintro ⟨⟨i, z, ns⟩, i1, i2, i3, i4, i5, i6⟩
 simp only at i1 i2 i3 i4 i5 i6 ⊢
 apply CaseB.mk <;> intro g
 refine CaseB.mk (fun g2 => ?_) (fun g2 => ?_)
 · have hlt : i < ps.length := by have := of_decide_eq_true g; omega
   have h4 : i < 4 := by have := of_decide_eq_true g2; omega
   have hw := bE i _ hlt (by omega)
   obtain ⟨m, hm⟩ : ∃ m, 4 - i = m + 1 := ⟨3 - i, by omega⟩
   have hd : (ps.drop i).take (4 - i) = ps[i] :: (ps.drop (i + 1)).take (4 - (i + 1)) := by rw [hm, drop_take hlt, show 4 - (i + 1) = m by omega]
   rw [hd] at i4
   refine aG kM aA rfl rfl rfl rfl rfl ⟨rfl, rfl⟩ (bU 1 rfl) i rfl z48 (fun ad => ?_)
   obtain ⟨pt, hpe⟩ : ∃ pt, pt = ps[i] := ⟨_, rfl⟩
   have hpl : pt.length ≤ 1000 := by rw [hpe]; exact hpt _ (List.getElem_mem hlt)
   rw [← hpe] at i4 ⊢
   refine aB _ nE0 rfl rfl rfl rfl ⟨rfl, rfl⟩ (fun A w hW => (lA0 pt w (by omega))) ?_
   rintro v L ⟨rfl, rfl⟩
   cases hn : uY pt with
   | none =>
     refine CaseB.mk (fun g3 => ?_) (fun g3 => by simp at g3)
     obtain rfl := hno (i4.trans (vU hn))
     exact aI ⟨rfl, rfl⟩ (fun _ => rfl)
   | some n =>
     refine CaseB.mk (fun g3 => by simp at g3) (fun g3 => ?_)
     refine AllSl.mk fun b3 => ?_
     refine bR aD 1 aA (xs := ns) (ys := [n]) rfl rfl rfl rfl rfl rfl rfl rfl rfl (by decide) ⟨rfl, rfl⟩ rfl z40 z48 z48 (fun z3 => ?_)
     refine ⟨⟨(i + 1, z3, ns ++ [n]), show 1 ≤ i + 1 by omega, h4, hlt, i4.trans (vT hn), by simp; omega, fun x hx => ?_⟩, ?_, by simp only; omega⟩
     · rcases List.mem_append.1 hx with hx | hx
       · exact i6 x hx
       · simp only [List.mem_singleton] at hx; subst hx; exact hY0 hn
     · exact aC [0, 2] zw1 zw0 zw1 zw5 zw3 rfl rfl
 have hfin : gL ((ps.drop 1).take 3) = some ns := by
   rw [i4, show 4 - i = 0 by have := of_decide_eq_false g2; omega, List.take_zero]
   simp [gL, lT]
 rotate_left
 have hfin : gL ((ps.drop 1).take 3) = some ns := by
   rw [i4, List.drop_eq_nil_of_le z90, List.take_nil]
   simp [gL, lT]
 rotate_left
 all_goals
   have hM := hyes ns hfin
   clear hno hyes hfin i4
   refine LoopW.mk ⟨{ q : Nat // 1 ≤ q ∧ q ≤ 11 ∧ (ns.length + 1 = ps.length → M = pK t (ps.headD []) ns (11 - q) q) },
     fun q => .mk [(0, .v (.string (bs t))), (2, .p 0 0), (4, .v (y.val ps.length)), (5, .v (z.val ns.length)), (9, .v (.int .i64 (q.1 : Int)))] 1 0 [(0, 65, 3)] [] [own z 3 aJ 1 ns, own y 9 xT 1 ps],
     fun q => 11 - q.1, ⟨1, Nat.le_refl _, by decide, fun h => by rw [hM, if_pos h]⟩, ?_, ?_⟩
   · exact aC [0, 1] zw2 zw0 zw2 zw5 zw4 rfl rfl
   rintro ⟨k, k1, k2, k3⟩
   simp only at k1 k2 k3 ⊢
   have hw1 : IntKind.i64.wrap ((ps.length : Int) - 1) = (ps.length : Int) - 1 := cV (by omega) (by omega)
   refine CaseB.mk (fun h => ?_) (fun h => ?_)
   · have hk : k ≤ 10 := by have := of_decide_eq_true h; omega
     have hw := bE k 11 (by omega) (by omega)
     refine CaseB.mk (fun h2 => ?_) (fun h2 => ?_)
     · have he : ns.length + 1 = ps.length := by rw [hw1] at h2; have h2' : (ns.length : Int) = (ps.length : Int) - 1 := (by simpa using h2); omega
       have hp0 : 0 < ps.length := by omega
       have hhd : ps.headD [] = ps[0] := by
         cases ps with
         | nil => simp at hp0
         | cons a r => rfl
       have hst := k3 he
       rw [show 11 - k = (11 - (k + 1)) + 1 by omega, eS0, hhd] at hst
       rw [hhd] at k3
       obtain ⟨wd, hwd⟩ : ∃ wd, wd = ps[0] := ⟨_, rfl⟩
       rw [← hwd] at hst k3
       refine aE aA z107 z107 z107 200 [] [1] [_] trivial trivial ⟨rfl, trivial⟩ rfl ?_
       refine bM (ti := aU tab) kM aA rfl rfl rfl rfl rfl ⟨rfl, rfl⟩ z40 0 rfl z48 (fun ad => ?_)
       rw [← hwd]
       refine bL _ jB0 rfl rfl rfl rfl ⟨rfl, rfl⟩ (fun A w hW => (lB0 (k : Int) w)) ?_
       rintro v L ⟨rfl, rfl⟩
       refine mM rfl rfl rfl ⟨rfl, rfl⟩ (.bool ((fS (k : Int)) != wd)) (fun w => bI w) (fun w => wL w) ?_
       have hgo : ∀ hst2 : M = pK t wd ns (11 - (k + 1)) (k + 1), 1 ≤ k + 1 ∧ k + 1 ≤ 11 ∧ (ns.length + 1 = ps.length → M = pK t (ps.headD []) ns (11 - (k + 1)) (k + 1)) := fun e => ⟨by omega, by omega, fun _ => by rw [hhd, ← hwd]; exact e⟩
       refine CaseB.mk (fun h3 => ?_) (fun h3 => ?_)
       · have e : ¬ fS (k : Int) = wd := by simpa using h3
         rw [if_neg e] at hst
         refine ⟨⟨k + 1, hgo hst⟩, ?_, by simp only; omega⟩
         exact aC [0, 1] zw1 zw0 zw1 zw5 zw3 rfl rfl
       have e : fS (k : Int) = wd := by simpa using h3
       rw [if_pos e] at hst
       refine aB _ cl196 rfl rfl rfl rfl ⟨rfl, rfl⟩ (fun A w hW => (oV0 (k : Int) z ns w ⟨hW.rdOwn 0 rfl, trivial⟩)) ?_
       rintro v L ⟨rfl, rfl⟩
       cases hm : nE (k : Int) ns with
       | none =>
         rw [hm] at hst
         refine CaseB.mk (fun h4 => by simp at h4) (fun h4 => ?_)
         refine ⟨⟨k + 1, hgo hst⟩, ?_, by simp only; omega⟩
         exact aC [0, 1] zw1 zw0 zw1 zw5 zw3 rfl rfl
       | some o =>
         rw [hm] at hst
         simp only at hst
         refine CaseB.mk (fun h4 => ?_) (fun h4 => by simp at h4)
         refine aB _ jA0 rfl rfl rfl rfl ⟨rfl, rfl⟩ (fun A w hW => (bP0 o w (eR0 i6 hm))) ?_
         rintro v L ⟨rfl, rfl⟩
         refine cK rfl rfl rfl ⟨rfl, rfl⟩ (.bool ((gA o) == t)) (fun w => bI w) (fun w => wK w) ?_
         refine CaseB.mk (fun h5 => ?_) (fun h5 => ?_)
         · have e5 : gA o = t := by simpa using h5
           rw [if_pos e5] at hst
           rw [hst]
           exact aI ⟨rfl, rfl⟩ (fun _ => rfl)
         have e5 : ¬ gA o = t := by simpa using h5
         rw [if_neg e5] at hst
         refine ⟨⟨k + 1, hgo hst⟩, ?_, by simp only; omega⟩
         exact aC [0, 1] zw1 zw0 zw1 zw5 zw3 rfl rfl
     have hn : ¬ ns.length + 1 = ps.length := fun e => by rw [hw1] at h2; have h2' : ¬ (ns.length : Int) = (ps.length : Int) - 1 := (by simpa using h2); omega
     rw [if_neg hn] at hM
     rw [hM]
     exact aI ⟨rfl, rfl⟩ (fun _ => rfl)
   have hk : k = 11 := by have := of_decide_eq_false h; omega
   subst hk
   have hMn : M = none := by
     by_cases he : ns.length + 1 = ps.length
     · exact k3 he
     · rw [hM, if_neg he]
   rw [hMn]
   exact aI ⟨rfl, rfl⟩ (fun _ => rfl)
theorem eT0 {out : Str} {l : List Int} {k : Nat} (h : k < l.length) : jB out (l.drop k) = jB ((out ++ [32]) ++ lL l[k]) (l.drop (k + 1)) := by
 rw [List.drop_eq_getElem_cons h, jB]
theorem vV : ∀ (l : List Int) (out : Str), (jB out l).length ≤ out.length + 21 * l.length
 | [], out => by simp [jB]
 | x :: r, out => by
   have h := vV r ((out ++ [32]) ++ lL x)
   have h2 := oP x
   simp only [jB, List.length_append, List.length_cons, List.length_nil] at h ⊢
   omega
theorem rG (wd : Str) (l : List Int) : (fA wd l).length ≤ wd.length + 21 * l.length + 1 := by
 have h := vV l wd
 unfold fA
 split
 · simp
 · simp only [List.length_append, List.length_cons, List.length_nil]; omega
theorem bQ0 (wd : Str) (i : Sl) (l : List Int) (w : World) (h : At w [slo i aJ 1 l]) (hw : wd.length ≤ 1000) (hl : l.length ≤ 1000) (hn : ∀ x ∈ l, xX x) :
   Calls Tryz.prog 187 #[.string (bs wd), i.val l.length] w (Ret w fun v L => v = .string (bs (fA wd l)) ∧ L = []) := by
 refine cM Tryz.func187 rfl aA w _ rfl _ rfl _ h ⟨rfl, rfl, trivial⟩ _ _ (by decide) ?_
 apply CaseB.mk <;> intro g
 · have e : l = [] := List.eq_nil_of_length_eq_zero (by have g' : (l.length : Int) = 0 := z103; omega)
   rw [show fA wd l = [] from if_pos e]
   exact aI ⟨rfl, rfl⟩ (fun _ => rfl)
 have e : ¬ l = [] := fun e => by rw [e] at g; simp at g
 rw [show fA wd l = jB wd l ++ [10] from if_neg e]
 refine LoopW.mk ⟨{ q : Nat × Str // q.1 ≤ l.length ∧ jB wd l = jB q.2 (l.drop q.1) ∧ q.2.length ≤ 1000 + 21 * q.1 },
   fun q => .mk [(1, .v (i.val l.length)), (5, .v (.string (bs q.1.2))), (6, .v (.int .i64 (q.1.1 : Int)))] 0 0 [] [] [slo i aJ 1 l],
   fun q => l.length - q.1.1, ⟨(0, wd), Nat.zero_le _, rfl, by simpa using hw⟩, ?_, ?_⟩
 · exact aC [0] zw2 zw0 zw2 zw5 zw4 rfl rfl
 rintro ⟨⟨k, out⟩, i1, i2, i3⟩
 simp only at i1 i2 i3 ⊢
 apply CaseB.mk <;> intro g
 · have hlt : k < l.length := by have := of_decide_eq_true g; omega
   have hw2 := bE k _ hlt (by omega)
   have hd := oP l[k]
   have hnk := hn _ (List.getElem_mem hlt)
   refine cK rfl rfl rfl ⟨rfl, rfl⟩ (.string (bs (out ++ [32]))) (fun w => bI w) (fun w => dA z64 w) ?_
   refine aG aD aA rfl rfl rfl rfl rfl ⟨rfl, rfl⟩ z40 k rfl z48 (fun ad => ?_)
   refine aB _ yN rfl rfl rfl rfl ⟨rfl, rfl⟩ (fun A w hW => (dH0 _ w hnk.1 hnk.2)) ?_
   rintro v L ⟨rfl, rfl⟩
   refine cK rfl rfl rfl ⟨rfl, rfl⟩ (.string (bs ((out ++ [32]) ++ (lL l[k])))) (fun w => bI w) (fun w => dA z64 w) ?_
   refine ⟨⟨(k + 1, (out ++ [32]) ++ lL l[k]), hlt, i2.trans (eT0 hlt), by simp only [List.length_append, List.length_cons, List.length_nil]; omega⟩, ?_, by simp only; omega⟩
   exact aC [0] zw8 zw0 zw8 zw5 zw24 rfl rfl
 have hge : l.length ≤ k := by have := of_decide_eq_false g; omega
 rw [List.drop_eq_nil_of_le hge, jB] at i2
 refine cK rfl rfl rfl ⟨rfl, rfl⟩ (.string (bs (out ++ [10]))) (fun w => bI w) (fun w => dA z64 w) ?_
 rw [i2]
 exact aI ⟨rfl, rfl⟩ (fun _ => rfl)
theorem bR0 (line wd : Str) (w : World) (hb : line.length ≤ 1000) :
   Calls Tryz.prog 154 #[.string (bs line), .string (bs wd)] w (Ret w fun v L => ∃ (z : Sl) (ns : List Int) (b : Bool), v = .tuple #[z.val ns.length, .bool b] ∧ (b = false → uF line wd = none) ∧ (b = true → uF line wd = some ns) ∧ L = [own z 3 aJ 1 ns]) := by
 have hcl := uB 32 line
 have hpt : ∀ x ∈ gI 32 line, x.length ≤ 1000 := fun x hx => Nat.le_trans (rF hx) hb
 have h0 : ¬ ((gI 32 line).headD [] = wd ∧ 2 ≤ (gI 32 line).length) → uF line wd = none := fun h => if_neg h
 have h1 : ((gI 32 line).headD [] = wd ∧ 2 ≤ (gI 32 line).length) → uF line wd = match gL (((gI 32 line).drop 1).take 5) with | none => none | some ns => if ns.length + 1 = (gI 32 line).length then some ns else none := fun h => if_pos h
 generalize uF line wd = M at h0 h1 ⊢
 refine cM Tryz.func154 rfl aA w _ rfl _ rfl [] trivial trivial _ _ (by decide) ?_
 refine aB _ fK0 rfl rfl rfl rfl ⟨rfl, rfl⟩ (fun A w hW => (gH0 line 32 w (by omega))) ?_
 rintro v L ⟨y, rfl, rfl⟩
 generalize gI 32 line = ps at hcl hpt h0 h1 ⊢
 refine AllSl.mk fun l0 => ?_
 have hp0 : 0 < ps.length := by omega
 have hhd : ps.headD [] = ps[0] := by
   cases ps with
   | nil => simp at hp0
   | cons a r => rfl
 rw [hhd] at h0 h1
 refine aG kM aA rfl rfl rfl rfl rfl ⟨rfl, rfl⟩ (bU 1 rfl) 0 rfl z48 (fun ad => ?_)
 refine cK rfl rfl rfl ⟨rfl, rfl⟩ (.bool ((ps[0]) != wd)) (fun w => bI w) (fun w => wL w) ?_
 apply CaseB.mk <;> intro g
 · have e := h0 (fun h => by rw [h.1] at g; simp at g)
   exact bC [0] ⟨l0, [], false, rfl, fun _ => e, fun h => z109, rfl⟩ z151 rfl ⟨rfl, trivial⟩ (fun _ => rfl)
 have e0 : ps[0] = wd := by simpa using g
 refine CaseB.mk (fun g2 => ?_) (fun g2 => ?_)
 · have e := h0 (fun h => by have := of_decide_eq_true g2; omega)
   exact bC [0] ⟨l0, [], false, rfl, fun _ => e, fun h => z109, rfl⟩ z151 rfl ⟨rfl, trivial⟩ (fun _ => rfl)
 have hM := h1 ⟨e0, by have := of_decide_eq_false g2; omega⟩
 clear h0 h1
 refine LoopW.mk ⟨{ q : Nat × Sl × List Int // 1 ≤ q.1 ∧ q.1 ≤ 6 ∧ q.1 ≤ ps.length ∧ gL ((ps.drop 1).take 5) = lT q.2.2 (gL ((ps.drop q.1).take (6 - q.1))) ∧ q.2.2.length + 1 = q.1 },
   fun q => .mk [(6, .v (y.val ps.length)), (7, .v (q.1.2.1.val q.1.2.2.length)), (8, .v (.int .i64 (q.1.1 : Int)))] 0 0 [] [] [own q.1.2.1 3 aJ 1 q.1.2.2, own y 9 xT 1 ps],
   fun q => 6 - q.1.1, ⟨(1, l0, []), Nat.le_refl _, by show 1 ≤ 6; omega, hcl.1, by simp only [lT, List.nil_append]; cases gL ((ps.drop 1).take (6 - 1)) <;> rfl, rfl⟩, ?_, ?_⟩
 · exact aC [0, 1] zw2 zw0 zw2 zw5 zw4 rfl rfl
 rintro ⟨⟨i, z, ns⟩, i1, i2, i3, i4, i5⟩
 simp only at i1 i2 i3 i4 i5 ⊢
 apply CaseB.mk <;> intro g
 refine CaseB.mk (fun g2 => ?_) (fun g2 => ?_)
 · have hlt : i < ps.length := by have := of_decide_eq_true g; omega
   have h6 : i < 6 := by have := of_decide_eq_true g2; omega
   have hw := bE i _ hlt (by omega)
   obtain ⟨m, hm⟩ : ∃ m, 6 - i = m + 1 := ⟨5 - i, by omega⟩
   have hd : (ps.drop i).take (6 - i) = ps[i] :: (ps.drop (i + 1)).take (6 - (i + 1)) := by rw [hm, drop_take hlt, show 6 - (i + 1) = m by omega]
   rw [hd] at i4
   refine aG kM aA rfl rfl rfl rfl rfl ⟨rfl, rfl⟩ (bU 1 rfl) i rfl z48 (fun ad => ?_)
   obtain ⟨pt, hpe⟩ : ∃ pt, pt = ps[i] := ⟨_, rfl⟩
   have hpl : pt.length ≤ 1000 := by rw [hpe]; exact hpt _ (List.getElem_mem hlt)
   rw [← hpe] at i4 ⊢
   refine aB _ nE0 rfl rfl rfl rfl ⟨rfl, rfl⟩ (fun A w hW => (lA0 pt w (by omega))) ?_
   rintro v L ⟨rfl, rfl⟩
   cases hn : uY pt with
   | none =>
     refine CaseB.mk (fun g3 => ?_) (fun g3 => by simp at g3)
     refine AllSl.mk fun l2 => ?_
     have e : M = none := by rw [hM, i4.trans (vU hn)]
     exact bC [0] ⟨l2, [], false, rfl, fun _ => e, fun h => z109, rfl⟩ z151 rfl ⟨rfl, trivial⟩ (fun _ => rfl)
   | some n =>
     refine CaseB.mk (fun g3 => by simp at g3) (fun g3 => ?_)
     refine AllSl.mk fun b3 => ?_
     refine bR aD 1 aA (xs := ns) (ys := [n]) rfl rfl rfl rfl rfl rfl rfl rfl rfl (by decide) ⟨rfl, rfl⟩ rfl z40 z48 z48 (fun z3 => ?_)
     refine ⟨⟨(i + 1, z3, ns ++ [n]), show 1 ≤ i + 1 by omega, h6, hlt, i4.trans (vT hn), by simp; omega⟩, ?_, by simp only; omega⟩
     exact aC [0, 2] zw1 zw0 zw1 zw5 zw3 rfl rfl
 have hfin : gL ((ps.drop 1).take 5) = some ns := by
   rw [i4, show 6 - i = 0 by have := of_decide_eq_false g2; omega, List.take_zero]
   simp [gL, lT]
 rotate_left
 have hfin : gL ((ps.drop 1).take 5) = some ns := by
   rw [i4, List.drop_eq_nil_of_le z90, List.take_nil]
   simp [gL, lT]
 rotate_left
 all_goals
   rw [hfin] at hM
   simp only at hM
   have hw1 : IntKind.i64.wrap ((ps.length : Int) - 1) = (ps.length : Int) - 1 := cV (by omega) (by omega)
   by_cases he : ns.length + 1 = ps.length
   · rw [if_pos he] at hM
     exact bC [0] ⟨z, ns, _, rfl, fun h => by rw [hw1] at h; have h' : ¬ (ns.length : Int) = (ps.length : Int) - 1 := z100; omega, fun _ => hM, rfl⟩ z151 rfl ⟨rfl, trivial⟩ (fun _ => rfl)
   · rw [if_neg he] at hM
     exact bC [0] ⟨z, ns, _, rfl, fun _ => hM, fun h => by rw [hw1] at h; have h' : (ns.length : Int) = (ps.length : Int) - 1 := z100; omega, rfl⟩ z151 rfl ⟨rfl, trivial⟩ (fun _ => rfl)
def xY (i : Nat) (s : Str) : Option Op := if i = 0 then eX s else if s.head? = some 32 then eX (s.drop 1) else none
def rN (i : Nat) : List Str → Option (List Op)
 | [] => some []
 | s :: r => match xY i s with
   | none => none
   | some o => match hU0 r with
     | none => none
     | some l => some (o :: l)
theorem oW0 : ∀ l : List Str, opsM l = rN 0 l
 | [] => rfl
 | _ :: _ => rfl
theorem oX0 {i : Nat} (h : 1 ≤ i) : ∀ l : List Str, hU0 l = rN i l
 | [] => rfl
 | s :: r => by simp only [hU0, rN, xY, if_neg (show ¬ i = 0 by omega)]; rfl
def nT (ns : List Op) (o : Option (List Op)) : Option (List Op) := match o with | none => none | some l => some (ns ++ l)
theorem uG {ns : List Op} {s : Str} {r : List Str} {o : Op} {i : Nat} (h : xY i s = some o) : nT ns (rN i (s :: r)) = nT (ns ++ [o]) (rN (i + 1) r) := by
 rw [← oX0 (by omega) r, rN, h]
 cases hU0 r with
 | none => rfl
 | some l => simp [nT]
theorem bS0 {ns : List Op} {s : Str} {r : List Str} {i : Nat} (h : xY i s = none) : nT ns (rN i (s :: r)) = none := by
 rw [rN, h]; rfl
theorem hZ0 (line : Str) (w : World) (hb : line.length ≤ 1000) :
   Calls Tryz.prog 155 #[.string (bs line)] w (Ret w fun v L => ∃ (z : Sl) (ns : List Op) (b : Bool), v = .tuple #[z.val ns.length, .bool b] ∧ (b = false → mF line = none) ∧ (b = true → mF line = some ns) ∧ L = [own z 65 cOp 3 ns]) := by
 have hcl := uB 44 (line.drop 7)
 have hdl : (line.drop 7).length ≤ 1000 := by simp; omega
 have hpt : ∀ x ∈ gI 44 (line.drop 7), x.length ≤ 1000 := fun x hx => Nat.le_trans (rF hx) hdl
 have h0 : line = [116, 104, 114, 101, 97, 100] → mF line = some [] := fun h => if_pos h
 have h1 : line ≠ [116, 104, 114, 101, 97, 100] → (line.length < 7 ∨ line.take 7 ≠ [116, 104, 114, 101, 97, 100, 32]) → mF line = none := fun h h2 => by rw [mF, if_neg h, if_pos h2]
 have h2 : line ≠ [116, 104, 114, 101, 97, 100] → ¬ (line.length < 7 ∨ line.take 7 ≠ [116, 104, 114, 101, 97, 100, 32]) → mF line = match rN 0 ((gI 44 (line.drop 7)).take 9) with | none => none | some l => if (gI 44 (line.drop 7)).length ≤ 8 then some l else none := fun h h2 => by rw [mF, if_neg h, if_neg h2, oW0]; rfl
 generalize mF line = M at h0 h1 h2 ⊢
 refine bV Tryz.func155 rfl aA w _ rfl _ rfl [] trivial trivial _ (by decide) ?_
 refine AllSl.mk fun l0 => ?_
 refine cK rfl rfl rfl ⟨rfl, rfl⟩ (.bool (line == [116, 104, 114, 101, 97, 100])) (fun w => bI w) (fun w => wK w) ?_
 apply CaseB.mk <;> intro g
 · have e := h0 z103
   exact bC [0] ⟨l0, [], true, rfl, fun h => z109, fun _ => e, rfl⟩ z151 rfl ⟨rfl, trivial⟩ (fun _ => rfl)
 have n0 : line ≠ [116, 104, 114, 101, 97, 100] := by simpa using g
 refine fH aA rfl rfl rfl rfl rfl rfl ⟨rfl, rfl⟩ ?_
 apply CaseB.mk <;> intro g
 · have e := h1 n0 (.inl (by have := of_decide_eq_true g; omega))
   exact bC [0] ⟨l0, [], false, rfl, fun _ => e, fun h => z109, rfl⟩ z151 rfl ⟨rfl, trivial⟩ (fun _ => rfl)
 have l7 : 7 ≤ line.length := by have := of_decide_eq_false g; omega
 refine mG aA rfl rfl rfl ⟨rfl, rfl⟩ rfl rfl (0) (7) rfl rfl z48 z48 ?_
 have ht7 : (line.drop 0).take (7 - 0) = line.take 7 := rfl
 rw [ht7]
 refine cK rfl rfl rfl ⟨rfl, rfl⟩ (.bool ((line.take 7) != [116, 104, 114, 101, 97, 100, 32])) (fun w => bI w) (fun w => wL w) ?_
 refine CaseB.mk (fun g2 => ?_) (fun g2 => ?_)
 · have e := h1 n0 (.inr z98)
   exact bC [0] ⟨l0, [], false, rfl, fun _ => e, fun h => z109, rfl⟩ z151 rfl ⟨rfl, trivial⟩ (fun _ => rfl)
 have hM := h2 n0 (fun h => by
   rcases h with h | h
   · omega
   · exact h z98)
 clear h0 h1 h2
 refine mG aA rfl rfl rfl ⟨rfl, rfl⟩ rfl rfl (7) (line.length) rfl rfl z48 z48 ?_
 have hd7 : (line.drop 7).take (line.length - 7) = line.drop 7 := List.take_of_length_le z92
 rw [hd7]
 refine aB _ fK0 rfl rfl rfl rfl ⟨rfl, rfl⟩ (fun A w hW => (gH0 (line.drop 7) 44 w (by omega))) ?_
 rintro v L ⟨y, rfl, rfl⟩
 generalize gI 44 (line.drop 7) = ps at hcl hpt hM ⊢
 refine LoopW.mk ⟨{ q : Nat × Sl × List Op // q.1 ≤ 9 ∧ q.1 ≤ ps.length ∧ rN 0 (ps.take 9) = nT q.2.2 (rN q.1 ((ps.drop q.1).take (9 - q.1))) ∧ q.2.2.length = q.1 },
   fun q => .mk [(4, .v (q.1.2.1.val q.1.2.2.length)), (5, .v (y.val ps.length)), (6, .v (.int .i64 (q.1.1 : Int)))] 0 0 [] [] [own q.1.2.1 65 cOp 3 q.1.2.2, own y 9 xT 1 ps],
   fun q => 9 - q.1.1, ⟨(0, l0, []), Nat.zero_le _, Nat.zero_le _, by simp only [nT, List.nil_append, List.drop_zero]; cases rN 0 (ps.take 9) <;> rfl, rfl⟩, ?_, ?_⟩
 · exact aC [1, 0] zw2 zw0 zw2 zw5 zw4 rfl rfl
 rintro ⟨⟨i, z, ns⟩, i1, i2, i3, i4⟩
 simp only at i1 i2 i3 i4 ⊢
 apply CaseB.mk <;> intro g
 refine CaseB.mk (fun g2 => ?_) (fun g2 => ?_)
 · have hlt : i < ps.length := by have := of_decide_eq_true g; omega
   have h8 : i < 9 := by have := of_decide_eq_true g2; omega
   have hw := bE i _ hlt (by omega)
   obtain ⟨m, hm⟩ : ∃ m, 9 - i = m + 1 := ⟨8 - i, by omega⟩
   have hd : (ps.drop i).take (9 - i) = ps[i] :: (ps.drop (i + 1)).take (9 - (i + 1)) := by rw [hm, drop_take hlt, show 9 - (i + 1) = m by omega]
   rw [hd] at i3
   refine aG kM aA rfl rfl rfl rfl rfl ⟨rfl, rfl⟩ (bU 1 rfl) i rfl z48 (fun ad => ?_)
   obtain ⟨pt, hpe⟩ : ∃ pt, pt = ps[i] := ⟨_, rfl⟩
   have hpl : pt.length ≤ 1000 := by rw [hpe]; exact hpt _ (List.getElem_mem hlt)
   rw [← hpe] at i3 ⊢
   have hbad : xY i pt = none → M = none := fun h => by rw [hM, i3.trans (bS0 h)]
   refine CaseB.mk (fun g3 => ?_) (fun g3 => ?_)
   · have hi0 : ¬ i = 0 := by have := of_decide_eq_true g3; omega
     have hop : xY i pt = if pt.head? = some 32 then eX (pt.drop 1) else none := if_neg hi0
     refine cK rfl rfl rfl ⟨rfl, rfl⟩ (.bool (pt == [])) (fun w => bI w) (fun w => wK w) ?_
     refine CaseB.mk (fun g4 => ?_) (fun g4 => ?_)
     · have e0 : pt = [] := by simpa using g4
       have e := hbad (by rw [hop, e0]; rfl)
       refine AllSl.mk fun l2 => ?_
       exact bC [0] ⟨l2, [], false, rfl, fun _ => e, fun h => z109, rfl⟩ z151 rfl ⟨rfl, trivial⟩ (fun _ => rfl)
     have hpp : 0 < pt.length := by
       cases pt with
       | nil => simp at g4
       | cons a r => simp
     have hh : pt.head? = some pt[0] := by rw [List.head?_eq_getElem?, List.getElem?_eq_getElem hpp]
     refine jT aA rfl rfl rfl rfl ⟨rfl, rfl⟩ (0) rfl z48 ?_
     refine CaseB.mk (fun g5 => ?_) (fun g5 => ?_)
     · have e32 : ¬ pt[0] = 32 := fun h => by rw [h] at g5; simp at g5
       have e := hbad (by rw [hop, hh, if_neg (fun h => e32 (Option.some.inj h))])
       refine AllSl.mk fun l2 => ?_
       exact bC [0] ⟨l2, [], false, rfl, fun _ => e, fun h => z109, rfl⟩ z151 rfl ⟨rfl, trivial⟩ (fun _ => rfl)
     have e32 : pt[0] = 32 := (dF0 _ 32).1 (by simpa using g5)
     rw [hh, e32, if_pos rfl] at hop
     refine CaseB.mk (fun g6 => ?_) (fun g6 => by rw [g3] at g6; cases g6)
     refine mG aA rfl rfl rfl ⟨rfl, rfl⟩ rfl rfl (1) (pt.length) rfl rfl z48 z48 ?_
     have hc1 : (pt.drop 1).take (pt.length - 1) = pt.drop 1 := List.take_of_length_le z92
     rw [hc1]
     have htl : (pt.drop 1).length ≤ 1000 := by simp; omega
     generalize pt.drop 1 = tx at hop htl ⊢
     refine aB _ nF0 rfl rfl rfl rfl ⟨rfl, rfl⟩ (fun A w hW => (zV tx w htl)) ?_
     rintro v L ⟨rfl, rfl⟩
     cases ho : eX tx with
     | none =>
       refine CaseB.mk (fun g7 => ?_) (fun g7 => by simp at g7)
       refine AllSl.mk fun l2 => ?_
       have e := hbad (hop.trans ho)
       exact bC [0] ⟨l2, [], false, rfl, fun _ => e, fun h => z109, rfl⟩ z151 rfl ⟨rfl, trivial⟩ (fun _ => rfl)
     | some o =>
       refine CaseB.mk (fun g7 => by simp at g7) (fun g7 => ?_)
       refine AllSl.mk fun b3 => ?_
       refine bR oH 1 aA (xs := ns) (ys := [o]) rfl rfl rfl rfl rfl rfl rfl rfl rfl (by decide) ⟨rfl, rfl⟩ rfl z40 z48 z48 (fun z3 => ?_)
       refine ⟨⟨(i + 1, z3, ns ++ [o]), h8, hlt, i3.trans (uG (hop.trans ho)), by simp; omega⟩, ?_, by simp only; omega⟩
       exact aC [0, 2] zw1 zw0 zw1 zw5 zw3 rfl rfl
   have hi0 : i = 0 := by have := of_decide_eq_false g3; omega
   have hop : xY i pt = eX pt := if_pos hi0
   refine CaseB.mk (fun g6 => by rw [g3] at g6; cases g6) (fun g6 => ?_)
   have htl := hpl
   refine aB _ nF0 rfl rfl rfl rfl ⟨rfl, rfl⟩ (fun A w hW => (zV pt w htl)) ?_
   rintro v L ⟨rfl, rfl⟩
   cases ho : eX pt with
   | none =>
     refine CaseB.mk (fun g7 => ?_) (fun g7 => by simp at g7)
     refine AllSl.mk fun l2 => ?_
     have e := hbad (hop.trans ho)
     exact bC [0] ⟨l2, [], false, rfl, fun _ => e, fun h => z109, rfl⟩ z151 rfl ⟨rfl, trivial⟩ (fun _ => rfl)
   | some o =>
     refine CaseB.mk (fun g7 => by simp at g7) (fun g7 => ?_)
     refine AllSl.mk fun b3 => ?_
     refine bR oH 1 aA (xs := ns) (ys := [o]) rfl rfl rfl rfl rfl rfl rfl rfl rfl (by decide) ⟨rfl, rfl⟩ rfl z40 z48 z48 (fun z3 => ?_)
     refine ⟨⟨(i + 1, z3, ns ++ [o]), h8, hlt, i3.trans (uG (hop.trans ho)), by simp; omega⟩, ?_, by simp only; omega⟩
     exact aC [0, 2] zw1 zw0 zw1 zw5 zw3 rfl rfl
 have hfin : rN 0 (ps.take 9) = some ns := by
   rw [i3, show 9 - i = 0 by have := of_decide_eq_false g2; omega, List.take_zero]
   simp [rN, nT]
 rotate_left
 have hfin : rN 0 (ps.take 9) = some ns := by
   rw [i3, List.drop_eq_nil_of_le z90, List.take_nil]
   simp [rN, nT]
 rotate_left
 all_goals
   rw [hfin] at hM
   simp only at hM
   by_cases he : ps.length ≤ 8
   · rw [if_pos he] at hM
     exact bC [0] ⟨z, ns, _, rfl, fun h => by have := of_decide_eq_false h; omega, fun _ => hM, rfl⟩ z151 rfl ⟨rfl, trivial⟩ (fun _ => rfl)
   · rw [if_neg he] at hM
     exact bC [0] ⟨z, ns, _, rfl, fun _ => hM, fun h => by have := of_decide_eq_true h; omega, rfl⟩ z151 rfl ⟨rfl, trivial⟩ (fun _ => rfl)
theorem OpOk.near {p : Prog} (ok : ProgOk p) {o : Op} (h : OpOk p o) : o.near := by
 obtain ⟨h1, h2, h3, h4, h5⟩ := h
 have hs : p.shared o.kind ≤ 4 := by
   have := ok.sems.1
   have := ok.groups.1
   have := ok.barriers.1
   have := ok.rooms.1
   unfold Prog.shared
   repeat' split
   all_goals omega
 have ha : -100 ≤ o.arg ∧ o.arg ≤ 1000 := by
   unfold Prog.argOk at h5
   split at h5
   · have hg : p.sems.getD o.on.toNat 0 ≤ 9 := by
       rw [List.getD_eq_getElem?_getD]
       cases e : p.sems[o.on.toNat]? with
       | none => simp
       | some x => exact (ok.sems.2 x (List.mem_of_getElem? e)).2
     omega
   · split at h5
     · omega
     · split at h5
       · simp [aW] at h5; omega
       · omega
 exact ⟨by omega, by omega, by omega, by omega⟩
theorem nU {l : List Int} {a b : Int} (h : iE l a b) (ha : -1000 ≤ a) (hb : b ≤ 1000) : ∀ x ∈ l, xX x := fun x hx => by
 have := h.2 x hx
 exact ⟨by omega, by omega⟩
theorem iA0 {first : Bool} {out : Str} {l : List Op} {k : Nat} (h : k < l.length) : pF first out (l.drop k) = pF false (((if first = true then out else out ++ [44]) ++ [32]) ++ gA l[k]) (l.drop (k + 1)) := by
 rw [List.drop_eq_getElem_cons h, pF]
theorem yG {out : Str} {l : List (List Op)} {k : Nat} (h : k < l.length) : gQ out (l.drop k) = gQ (pF true (out ++ [116, 104, 114, 101, 97, 100]) l[k] ++ [10]) (l.drop (k + 1)) := by
 rw [List.drop_eq_getElem_cons h, gQ]
theorem iB0 (p : ProgH) (w : World) (h : At w [fR (aV p)]) (ok : ProgOk p.pure) :
   Calls Tryz.prog 156 #[dJ p] w (Ret w fun v L => v = .string (bs (uE p.pure)) ∧ L = []) := by
 have s0 : p.sems.length ≤ 3 := ok.sems.1
 have s1 : p.groups.length ≤ 3 := ok.groups.1
 have s2 : p.barriers.length ≤ 3 := ok.barriers.1
 have s3 : p.rooms.length ≤ 3 := ok.rooms.1
 have lt : p.pure.threads.length = p.threads.length := by simp [ProgH.pure]
 have s4 : p.threads.length ≤ 4 := by rw [← lt]; exact ok.n4
 have q0 := rG [115, 101, 109, 115] p.sems
 have q1 := rG [103, 114, 111, 117, 112, 115] p.groups
 have q2 := rG [98, 97, 114, 114, 105, 101, 114, 115] p.barriers
 have q3 := rG [114, 111, 111, 109, 115] p.rooms
 simp only [List.length_cons, List.length_nil] at q0 q1 q2 q3
 refine bV Tryz.func156 rfl aA w _ rfl _ rfl _ h ⟨rfl, rfl, trivial⟩ _ (by decide) ?_
 refine aB _ fF0 rfl rfl rfl rfl ⟨rfl, rfl⟩ (fun A w hW => mB p w ⟨hW.get 0 rfl (.refl _), trivial⟩ ⟨by omega, by omega, by omega, by omega⟩) ?_
 rintro v L ⟨b0, rfl, hb0, rfl⟩
 refine CaseB.mk (fun g => by rw [hb0.2 ok] at g; cases g) (fun _ => ?_)
 refine aE aA z107 z107 z107 200 [((0, 0), .v (p.h0.val p.sems.length)), ((0, 1), .v (p.h1.val p.groups.length)), ((0, 2), .v (p.h2.val p.barriers.length)), ((0, 3), .v (p.h3.val p.rooms.length)), ((0, 4), .v (p.h4.val p.threads.length))] [] [] z123 z140 trivial rfl ?_
 refine bL _ fQ0 rfl rfl rfl rfl ⟨rfl, rfl⟩ (fun A w hW => (bQ0 [115, 101, 109, 115] p.h0 p.sems w ⟨hW.get 0 rfl (.ofR (eJ p)), trivial⟩ (by decide) (by omega) (nU ok.sems (by decide) (by decide)))) ?_
 rintro v L ⟨rfl, rfl⟩
 refine bL _ fQ0 rfl rfl rfl rfl ⟨rfl, rfl⟩ (fun A w hW => (bQ0 [103, 114, 111, 117, 112, 115] p.h1 p.groups w ⟨hW.get 0 rfl (.ofR (iP p)), trivial⟩ (by decide) (by omega) (nU ok.groups (by decide) (by decide)))) ?_
 rintro v L ⟨rfl, rfl⟩
 refine mM rfl rfl rfl ⟨rfl, rfl⟩ (.string (bs ((fA [115, 101, 109, 115] p.sems) ++ (fA [103, 114, 111, 117, 112, 115] p.groups)))) (fun w => bI w) (fun w => dA (by omega) w) ?_
 refine bL _ fQ0 rfl rfl rfl rfl ⟨rfl, rfl⟩ (fun A w hW => (bQ0 [98, 97, 114, 114, 105, 101, 114, 115] p.h2 p.barriers w ⟨hW.get 0 rfl (.ofR (eF p)), trivial⟩ (by decide) (by omega) (nU ok.barriers (by decide) (by decide)))) ?_
 rintro v L ⟨rfl, rfl⟩
 refine mM rfl rfl rfl ⟨rfl, rfl⟩ (.string (bs ((fA [115, 101, 109, 115] p.sems ++ fA [103, 114, 111, 117, 112, 115] p.groups) ++ (fA [98, 97, 114, 114, 105, 101, 114, 115] p.barriers)))) (fun w => bI w) (fun w => dA (by simp only [List.length_append]; omega) w) ?_
 refine bL _ fQ0 rfl rfl rfl rfl ⟨rfl, rfl⟩ (fun A w hW => (bQ0 [114, 111, 111, 109, 115] p.h3 p.rooms w ⟨hW.get 0 rfl (.ofR (gK p)), trivial⟩ (by decide) (by omega) (nU ok.rooms (by decide) (by decide)))) ?_
 rintro v L ⟨rfl, rfl⟩
 refine mM rfl rfl rfl ⟨rfl, rfl⟩ (.string (bs (((fA [115, 101, 109, 115] p.sems ++ fA [103, 114, 111, 117, 112, 115] p.groups) ++ fA [98, 97, 114, 114, 105, 101, 114, 115] p.barriers) ++ (fA [114, 111, 111, 109, 115] p.rooms)))) (fun w => bI w) (fun w => dA (by simp only [List.length_append]; omega) w) ?_
 have hF : uE p.pure = gQ (((fA [115, 101, 109, 115] p.sems ++ fA [103, 114, 111, 117, 112, 115] p.groups) ++ fA [98, 97, 114, 114, 105, 101, 114, 115] p.barriers) ++ fA [114, 111, 111, 109, 115] p.rooms) p.pure.threads := rfl
 rw [hF]
 have hol : ((((fA [115, 101, 109, 115] p.sems ++ fA [103, 114, 111, 117, 112, 115] p.groups) ++ fA [98, 97, 114, 114, 105, 101, 114, 115] p.barriers) ++ fA [114, 111, 111, 109, 115] p.rooms)).length ≤ 1000 := by simp only [List.length_append]; omega
 clear hF q0 q1 q2 q3
 generalize (((fA [115, 101, 109, 115] p.sems ++ fA [103, 114, 111, 117, 112, 115] p.groups) ++ fA [98, 97, 114, 114, 105, 101, 114, 115] p.barriers) ++ fA [114, 111, 111, 109, 115] p.rooms) = o1 at hol ⊢
 refine LoopW.mk ⟨{ q : Nat × Str // q.1 ≤ p.threads.length ∧ gQ o1 p.pure.threads = gQ q.2 (p.pure.threads.drop q.1) ∧ q.2.length ≤ 1000 + 1000 * q.1 },
   fun q => .mk [(1, .p 0 0), (3, .v (.string (bs q.1.2))), (4, .v (.int .i64 (q.1.1 : Int)))] 1 0 [(0, 26, 5)] [((0, 4), .v (p.h4.val p.threads.length))] [fR (aV p)],
   fun q => p.threads.length - q.1.1, ⟨(0, o1), Nat.zero_le _, rfl, by simpa using hol⟩, ?_, ?_⟩
 · exact aC [0] zw2 zw0 zw2 zw5 zw4 rfl rfl
 rintro ⟨⟨i, out⟩, i1, i2, i3⟩
 simp only at i1 i2 i3 ⊢
 apply CaseB.mk <;> intro g
 · have hlt : i < p.threads.length := by have := of_decide_eq_true g; omega
   have hlt2 : i < p.pure.threads.length := by omega
   have hw := bE i _ hlt (by omega)
   have ht : p.pure.threads[i] = (p.threads[i]).m := by simp [ProgH.pure]
   have hopk := ok.ops _ (List.getElem_mem hlt2)
   rw [ht] at hopk
   rw [yG hlt2, ht] at i2
   refine cK rfl rfl rfl ⟨rfl, rfl⟩ (.string (bs (out ++ [116, 104, 114, 101, 97, 100]))) (fun w => bI w) (fun w => dA z83 w) ?_
   obtain ⟨ops, hops⟩ : ∃ ops, ops = (p.threads[i]).m := ⟨_, rfl⟩
   rw [← hops] at hopk i2
   refine LoopW.mk ⟨{ q : Nat × Str // q.1 ≤ ops.length ∧ pF true (out ++ [116, 104, 114, 101, 97, 100]) ops = pF (decide (q.1 = 0)) q.2 (ops.drop q.1) ∧ q.2.length ≤ out.length + 6 + 62 * q.1 },
     fun q => .mk [(1, .p 0 0), (3, .v (.string (bs q.1.2))), (4, .v (.int .i64 (i : Int))), (5, .v (.int .i64 (q.1.1 : Int)))] 1 0 [(0, 26, 5)] [((0, 4), .v (p.h4.val p.threads.length))] [fR (aV p)],
     fun q => ops.length - q.1.1, ⟨(0, out ++ [116, 104, 114, 101, 97, 100]), Nat.zero_le _, rfl, by simp⟩, ?_, ?_⟩
   · exact aC [0] zw2 zw0 zw2 zw5 zw4 rfl rfl
   rintro ⟨⟨k, o2⟩, k1, k2, k3⟩
   simp only at k1 k2 k3 ⊢
   subst hops
   refine aG dR aA rfl rfl rfl rfl rfl ⟨rfl, rfl⟩ (aL 0 rfl (.trans (.R_R (aY p)) (.ofR bG))) i rfl z48 (fun ad => ?_)
   refine CaseB.mk (fun g2 => ?_) (fun g2 => ?_)
   · have hkl : k < (p.threads[i]).m.length := by have := of_decide_eq_true g2; omega
     have hw2 := bE k _ hkl (by omega)
     have hne := OpOk.near ok (hopk.2 _ (List.getElem_mem hkl))
     have hfl := eO0 ((p.threads[i]).m[k])
     rw [iA0 hkl] at k2
     refine CaseB.mk (fun g3 => ?_) (fun g3 => ?_)
     · have hk0 : ¬ k = 0 := by have := of_decide_eq_true g3; omega
       rw [decide_eq_false hk0, if_neg (by decide)] at k2
       refine cK rfl rfl rfl ⟨rfl, rfl⟩ (.string (bs (o2 ++ [44]))) (fun w => bI w) (fun w => dA z83 w) ?_
       refine cK rfl rfl rfl ⟨rfl, rfl⟩ (.string (bs ((o2 ++ [44]) ++ [32]))) (fun w => bI w) (fun w => dA z64 w) ?_
       refine aG dR aA rfl rfl rfl rfl rfl ⟨rfl, rfl⟩ (aL 0 rfl (.trans (.R_R (aY p)) (.ofR bG))) i rfl z48 (fun ad2 => ?_)
       refine aG oH aA rfl rfl rfl rfl rfl ⟨rfl, rfl⟩ (aL 0 rfl (.trans (.R_R (aY p)) (.ofR (fW _ _ i hlt)))) k rfl hkl (fun ad3 => ?_)
       refine aB _ jA0 rfl rfl rfl rfl ⟨rfl, rfl⟩ (fun A w hW => (bP0 _ w hne)) ?_
       rintro v L ⟨rfl, rfl⟩
       refine cK rfl rfl rfl ⟨rfl, rfl⟩ (.string (bs (((o2 ++ [44]) ++ [32]) ++ (gA ((p.threads[i]).m[k]))))) (fun w => bI w) (fun w => dA z64 w) ?_
       refine ⟨⟨(k + 1, ((o2 ++ [44]) ++ [32]) ++ gA ((p.threads[i]).m[k])), hkl, by rw [decide_eq_false (by omega)]; exact k2, by simp only [List.length_append, List.length_cons, List.length_nil]; omega⟩, ?_, by simp only; omega⟩
       exact aC [0] zw8 zw0 zw8 zw5 zw24 rfl rfl
     have hk0 : k = 0 := by have := of_decide_eq_false g3; omega
     rw [decide_eq_true hk0, if_pos rfl] at k2
     refine cK rfl rfl rfl ⟨rfl, rfl⟩ (.string (bs (o2 ++ [32]))) (fun w => bI w) (fun w => dA z64 w) ?_
     refine aG dR aA rfl rfl rfl rfl rfl ⟨rfl, rfl⟩ (aL 0 rfl (.trans (.R_R (aY p)) (.ofR bG))) i rfl z48 (fun ad2 => ?_)
     refine aG oH aA rfl rfl rfl rfl rfl ⟨rfl, rfl⟩ (aL 0 rfl (.trans (.R_R (aY p)) (.ofR (fW _ _ i hlt)))) k rfl hkl (fun ad3 => ?_)
     refine aB _ jA0 rfl rfl rfl rfl ⟨rfl, rfl⟩ (fun A w hW => (bP0 _ w hne)) ?_
     rintro v L ⟨rfl, rfl⟩
     refine cK rfl rfl rfl ⟨rfl, rfl⟩ (.string (bs ((o2 ++ [32]) ++ (gA ((p.threads[i]).m[k]))))) (fun w => bI w) (fun w => dA z64 w) ?_
     refine ⟨⟨(k + 1, (o2 ++ [32]) ++ gA ((p.threads[i]).m[k])), hkl, by rw [decide_eq_false (by omega)]; exact k2, by simp only [List.length_append, List.length_cons, List.length_nil]; omega⟩, ?_, by simp only; omega⟩
     exact aC [0] zw8 zw0 zw8 zw5 zw24 rfl rfl
   have hge : (p.threads[i]).m.length ≤ k := by have := of_decide_eq_false g2; omega
   rw [List.drop_eq_nil_of_le hge, pF] at k2
   rw [k2] at i2
   refine cK rfl rfl rfl ⟨rfl, rfl⟩ (.string (bs (o2 ++ [10]))) (fun w => bI w) (fun w => dA z64 w) ?_
   refine ⟨⟨(i + 1, o2 ++ [10]), hlt, i2, by simp only [List.length_append, List.length_cons, List.length_nil]; omega⟩, ?_, by simp only; omega⟩
   exact aC [0] zw1 zw0 zw1 zw5 zw3 rfl rfl
 have hge : p.pure.threads.length ≤ i := by have := of_decide_eq_false g; omega
 rw [List.drop_eq_nil_of_le hge, gQ] at i2
 rw [i2]
 exact aI ⟨rfl, rfl⟩ (fun _ => rfl)
def lD0 : Prog := ⟨[], [], [], [], []⟩
def oY0 : ProgH := ⟨[], [], [], [], [], ⟨none, 0⟩, ⟨none, 0⟩, ⟨none, 0⟩, ⟨none, 0⟩, ⟨none, 0⟩⟩
def oB (ls : List Str) : List Str := (ls.take (ls.length - 1)).take 9
theorem eU0 {α β : Type} (f : β → α → β) (z : β) (l : List α) {k : Nat} (h : k < l.length) : (l.take (k + 1)).foldl f z = f ((l.take k).foldl f z) l[k] := by
 rw [List.take_succ_eq_append_getElem h, List.foldl_append]; rfl
theorem dJ0 (t : Str) (w : World) (hb : t.length ≤ 1000) (ok : ProgOk (sR t)) (hf : uE (sR t) = t) :
   Calls Tryz.prog 99 #[.string (bs t)] w (Ret w fun v L => ∃ p : ProgH, v = .tuple #[dJ p, .bool true] ∧ p.pure = sR t ∧ L = [fO (aV p)]) := by
 have hcl := uB 10 t
 have hpt : ∀ x ∈ gI 10 t, x.length ≤ 1000 := fun x hx => Nat.le_trans (rF hx) hb
 have hM : sR t = (oB (gI 10 t)).foldl lX lD0 := rfl
 generalize sR t = M at ok hf hM ⊢
 refine bV Tryz.func99 rfl aA w _ rfl _ rfl [] trivial trivial _ (by decide) ?_
 refine aB _ fK0 rfl rfl rfl rfl ⟨rfl, rfl⟩ (fun A w hW => (gH0 t 10 w (by omega))) ?_
 rintro v L ⟨y, rfl, rfl⟩
 generalize gI 10 t = ls at hcl hpt hM ⊢
 have hLl : (oB ls).length ≤ 9 ∧ (oB ls).length + 1 ≤ ls.length ∧ ((oB ls).length = 9 ∨ (oB ls).length + 1 = ls.length) := by
   simp only [oB, List.length_take]; omega
 have hLi : ∀ (i : Nat) (h : i < (oB ls).length) (h2 : i < ls.length), (oB ls)[i] = ls[i] := fun i h h2 => by simp [oB]
 generalize oB ls = Ls at hM hLl hLi
 refine LoopW.mk ⟨{ q : Nat × ProgH // q.1 ≤ Ls.length ∧ q.2.pure = (Ls.take q.1).foldl lX lD0 ∧ q.2.threads.length ≤ q.1 },
   fun q => .mk [(0, .v (.string (bs t))), (2, .p 0 0), (4, .v (y.val ls.length)), (5, .p 1 0), (6, .v (.int .i64 (q.1.1 : Int)))] 2 0 [(0, 26, 5), (1, 26, 5)] [((1, 0), .v (q.1.2.h0.val q.1.2.sems.length)), ((1, 1), .v (q.1.2.h1.val q.1.2.groups.length)), ((1, 2), .v (q.1.2.h2.val q.1.2.barriers.length)), ((1, 3), .v (q.1.2.h3.val q.1.2.rooms.length)), ((1, 4), .v (q.1.2.h4.val q.1.2.threads.length))] [own q.1.2.h0 3 aJ 1 q.1.2.sems, own q.1.2.h1 3 aJ 1 q.1.2.groups, own q.1.2.h2 3 aJ 1 q.1.2.barriers, own q.1.2.h3 3 aJ 1 q.1.2.rooms, own q.1.2.h4 68 kI 1 q.1.2.threads, fO (q.1.2.threads.flatMap pZ), own y 9 xT 1 ls],
   fun q => Ls.length - q.1.1, ⟨(0, oY0), Nat.zero_le _, rfl, Nat.le_refl _⟩, ?_, ?_⟩
 · refine aO (.joinO [] (Gs := []) trivial rfl (.refl _)) ?_
   exact aC [95, 96, 97, 98, 99, 0, 1] zw2 zw0 zw2 zw5 zw4 rfl rfl
 rintro ⟨⟨i, p⟩, i1, i2, i3⟩
 simp only at i1 i2 i3 ⊢
 have hw0 : IntKind.i64.wrap ((i : Int) + 1) = ((i + 1 : Nat) : Int) := bE i 100 (by omega) (by omega)
 apply CaseB.mk <;> intro g
 refine CaseB.mk (fun g2 => ?_) (fun g2 => ?_)
 · rw [hw0] at g
   have hlt : i < ls.length := by have := of_decide_eq_true g; omega
   have hiL : i < Ls.length := by have := of_decide_eq_true g; have := of_decide_eq_true g2; omega
   have hst := eU0 lX lD0 Ls hiL
   rw [← i2, hLi i hiL hlt] at hst
   obtain ⟨ln, hln⟩ : ∃ ln, ln = ls[i] := ⟨_, rfl⟩
   have hll : ln.length ≤ 1000 := by rw [hln]; exact hpt _ (List.getElem_mem hlt)
   rw [← hln] at hst
   refine aG kM aA rfl rfl rfl rfl rfl ⟨rfl, rfl⟩ (bU 6 rfl) i rfl z48 (fun ad0 => ?_)
   rw [← hln]
   refine aB _ fL0 rfl rfl rfl rfl ⟨rfl, rfl⟩ (fun A w hW => (bR0 ln [115, 101, 109, 115] w hll)) ?_
   rintro v L ⟨z0, n0, b0, rfl, f0, t0, rfl⟩
   refine aG kM aA rfl rfl rfl rfl rfl ⟨rfl, rfl⟩ (bU 7 rfl) i rfl z48 (fun ad1 => ?_)
   rw [← hln]
   refine aB _ fL0 rfl rfl rfl rfl ⟨rfl, rfl⟩ (fun A w hW => (bR0 ln [103, 114, 111, 117, 112, 115] w hll)) ?_
   rintro v L ⟨z1, n1, b1, rfl, f1, t1, rfl⟩
   refine aG kM aA rfl rfl rfl rfl rfl ⟨rfl, rfl⟩ (bU 8 rfl) i rfl z48 (fun ad2 => ?_)
   rw [← hln]
   refine aB _ fL0 rfl rfl rfl rfl ⟨rfl, rfl⟩ (fun A w hW => (bR0 ln [98, 97, 114, 114, 105, 101, 114, 115] w hll)) ?_
   rintro v L ⟨z2, n2, b2, rfl, f2, t2, rfl⟩
   refine aG kM aA rfl rfl rfl rfl rfl ⟨rfl, rfl⟩ (bU 9 rfl) i rfl z48 (fun ad3 => ?_)
   rw [← hln]
   refine aB _ fL0 rfl rfl rfl rfl ⟨rfl, rfl⟩ (fun A w hW => (bR0 ln [114, 111, 111, 109, 115] w hll)) ?_
   rintro v L ⟨z3, n3, b3, rfl, f3, t3, rfl⟩
   refine aG kM aA rfl rfl rfl rfl rfl ⟨rfl, rfl⟩ (bU 10 rfl) i rfl z48 (fun ad4 => ?_)
   rw [← hln]
   refine aB _ cl155 rfl rfl rfl rfl ⟨rfl, rfl⟩ (fun A w hW => (hZ0 ln w hll)) ?_
   rintro v L ⟨z4, n4, b4, rfl, f4, t4, rfl⟩
   refine CaseB.mk (fun e0 => ?_) (fun e0 => ?_)
   · have hn : lX p.pure ln = (ProgH.pure { p with sems := n0, h0 := z0 }) := by simp only [lX, t0 e0]; rfl
     refine ⟨⟨(i + 1, { p with sems := n0, h0 := z0 }), hiL, by rw [hst, hn], show p.threads.length ≤ i + 1 by omega⟩, ?_, by simp only; omega⟩
     exact aC [4, 6, 7, 8, 9, 10, 11] zw7 zw0 zw7 zw5 zw17 rfl rfl
   refine CaseB.mk (fun e1 => ?_) (fun e1 => ?_)
   · have hn : lX p.pure ln = (ProgH.pure { p with groups := n1, h1 := z1 }) := by simp only [lX, f0 e0, t1 e1]; rfl
     refine ⟨⟨(i + 1, { p with groups := n1, h1 := z1 }), hiL, by rw [hst, hn], show p.threads.length ≤ i + 1 by omega⟩, ?_, by simp only; omega⟩
     exact aC [5, 3, 7, 8, 9, 10, 11] zw7 zw0 zw7 zw5 zw17 rfl rfl
   refine CaseB.mk (fun e2 => ?_) (fun e2 => ?_)
   · have hn : lX p.pure ln = (ProgH.pure { p with barriers := n2, h2 := z2 }) := by simp only [lX, f0 e0, f1 e1, t2 e2]; rfl
     refine ⟨⟨(i + 1, { p with barriers := n2, h2 := z2 }), hiL, by rw [hst, hn], show p.threads.length ≤ i + 1 by omega⟩, ?_, by simp only; omega⟩
     exact aC [5, 6, 2, 8, 9, 10, 11] zw7 zw0 zw7 zw5 zw17 rfl rfl
   refine CaseB.mk (fun e3 => ?_) (fun e3 => ?_)
   · have hn : lX p.pure ln = (ProgH.pure { p with rooms := n3, h3 := z3 }) := by simp only [lX, f0 e0, f1 e1, f2 e2, t3 e3]; rfl
     refine ⟨⟨(i + 1, { p with rooms := n3, h3 := z3 }), hiL, by rw [hst, hn], show p.threads.length ≤ i + 1 by omega⟩, ?_, by simp only; omega⟩
     exact aC [5, 6, 7, 1, 9, 10, 11] zw7 zw0 zw7 zw5 zw17 rfl rfl
   refine CaseB.mk (fun e4 => ?_) (fun e4 => ?_)
   · refine AllSl.mk fun b5 => ?_
     obtain ⟨x, hx⟩ : ∃ x : OpSH, x = ⟨n4, z4⟩ := ⟨_, rfl⟩
     refine bR dR 10 aA (xs := p.threads) (ys := [⟨n4, z4⟩]) rfl rfl rfl rfl rfl rfl rfl rfl rfl (by decide) ⟨rfl, rfl⟩ rfl z40 z48 z48 (fun z5 => ?_)
     rw [← hx]
     have hn : lX p.pure ln = (ProgH.pure { p with threads := p.threads ++ [x], h4 := z5 }) := by simp only [lX, f0 e0, f1 e1, f2 e2, f3 e3, t4 e4]; subst hx; simp [ProgH.pure]
     refine ⟨⟨(i + 1, { p with threads := p.threads ++ [x], h4 := z5 }), hiL, by rw [hst, hn], by simp; omega⟩, ?_, by simp only; omega⟩
     refine aO (.joinO [2, 11] (Gs := [[_], _]) z143 rfl (G := (p.threads ++ [x]).flatMap pZ) (by subst hx; rw [List.flatMap_append]; exact (List.Perm.of_eq (by simp [pZ])).trans List.perm_append_comm)) ?_
     exact aC [7, 8, 9, 10, 1, 0, 11] zw7 zw0 zw7 zw5 zw17 rfl rfl
   have hn : lX p.pure ln = p.pure := by simp only [lX, f0 e0, f1 e1, f2 e2, f3 e3, f4 e4]
   refine ⟨⟨(i + 1, p), hiL, by rw [hst, hn], show p.threads.length ≤ i + 1 by omega⟩, ?_, by simp only; omega⟩
   exact aC [5, 6, 7, 8, 9, 10, 11] zw7 zw0 zw7 zw5 zw17 rfl rfl
 have hie : i = Ls.length := by have := of_decide_eq_false g2; omega
 rotate_left
 have hie : i = Ls.length := by rw [hw0] at g; have := of_decide_eq_false g; omega
 rotate_left
 all_goals
   rw [hie, List.take_length, ← hM] at i2
   have sz : p.sems.length ≤ 3 ∧ p.groups.length ≤ 3 ∧ p.barriers.length ≤ 3 ∧ p.rooms.length ≤ 3 := by
     rw [← i2] at ok; exact ⟨ok.sems.1, ok.groups.1, ok.barriers.1, ok.rooms.1⟩
   refine xE (.joinO [0, 1, 2, 3, 4, 5] (Gs := [[_], [_], [_], [_], [_], _]) z119 rfl (G := aV p) (.of_eq (by simp [aV, oI, iB]))) ?_
   refine aB _ fF0 rfl rfl rfl rfl ⟨rfl, rfl⟩ (fun A w hW => mB p w ⟨hW.get 0 rfl (.O_R fun _ h => h), trivial⟩ ⟨by omega, by omega, by omega, by omega⟩) ?_
   rintro v L ⟨b0, rfl, hb0, rfl⟩
   rw [i2] at hb0
   refine CaseB.mk (fun g3 => by rw [hb0.2 ok] at g3; cases g3) (fun _ => ?_)
   refine aB _ cl156 rfl rfl rfl rfl ⟨rfl, rfl⟩ (fun A w hW => (iB0 p w ⟨hW.get 0 rfl (.O_R fun _ h => h), trivial⟩ (by rw [i2]; exact ok))) ?_
   rintro v L ⟨rfl, rfl⟩
   rw [i2, hf]
   refine cK rfl rfl rfl ⟨rfl, rfl⟩ (.bool (t != t)) (fun w => bI w) (fun w => wL w) ?_
   refine CaseB.mk (fun g4 => by simp at g4) (fun _ => ?_)
   exact bC [0] ⟨p, rfl, i2, rfl⟩ z151 rfl ⟨rfl, trivial⟩ (fun _ => rfl)
theorem of_c (g : Nat) (bi : Sl) (rb : List UInt8) (p : Nat) (i : Sl) (xs : List Str) (w : World) (hg : Blk w g 140 (nZ bi rb p)) (h : AtP w g [slo bi gS 1 rb, slo i xT 1 xs]) (hb : rb.length ≤ 2000) (hp : p < 1000000000) (h0 : 0 < xs.length) :
   Calls Tryz.prog 100 #[.pointer (some ⟨g, 0, none⟩), i.val xs.length] w (wY w g 140 2 fun v cs L => ∃ x : Str, v = .string (bs x) ∧ x ∈ xs ∧ cs = nZ bi rb (p + 1) ∧ L = []) := by
 refine tC Tryz.func100 rfl aA w _ rfl _ rfl _ 140 _ 2 rfl hg _ h ⟨rfl, rfl, rfl, rfl, trivial⟩ _ (by decide) ?_
 refine bN _ sX rfl rfl rfl rfl ⟨rfl, rfl⟩ rfl rfl (fun A w ga hga hW hblk => (kG ga bi rb p xs.length w hblk ⟨z38, trivial⟩ hb hp)) ?_
 rintro v cs L ⟨k, rfl, hk, _, rfl, rfl⟩
 have hlt : k < xs.length := by have := hk (by omega); omega
 refine aG kM aA rfl rfl rfl rfl rfl ⟨rfl, rfl⟩ z40 k rfl z48 (fun ad => ?_)
 exact mN [] ⟨_, rfl, List.getElem_mem hlt, rfl, rfl⟩ rfl rfl trivial rfl trivial (fun _ => rfl)
theorem iC0 (w : World) : Calls Tryz.prog 101 #[] w (Ret w fun v L => ∃ y : Sl, v = y.val samplesL.length ∧ L = [own y 9 xT 1 samplesL]) := by
 refine nX0 Tryz.func101 rfl aA w _ rfl _ rfl [] trivial trivial  ?_
 refine AllSl.mk fun y => ?_
 exact bC [0] ⟨y, rfl, rfl⟩ z151 rfl ⟨rfl, trivial⟩ (fun _ => rfl)
theorem op6_c (g : Nat) (bi : Sl) (rb : List UInt8) (p : Nat) (q : ProgH) (w : World) (hg : Blk w g 140 (nZ bi rb p)) (h : AtP w g [slo bi gS 1 rb, fR (aV q)]) (hb : rb.length ≤ 2000) (hp : p < 1000000) :
   Calls Tryz.prog 102 #[.pointer (some ⟨g, 0, none⟩), dJ q] w (wY w g 140 2 fun v cs L => ∃ (o : Op) (p2 : Nat), v = .agg (cOp o).toArray ∧ OpOk q.pure o ∧ cs = nZ bi rb p2 ∧ p2 ≤ p + 4 ∧ L = []) := by
 refine tC Tryz.func102 rfl aA w _ rfl _ rfl _ 140 _ 2 rfl hg _ h ⟨rfl, rfl, rfl, rfl, trivial⟩ _ (by decide) ?_
 refine AllSl.mk fun l1 => ?_
 refine bN _ rH rfl rfl rfl rfl ⟨rfl, rfl⟩ rfl rfl (fun A w ga hga hW hblk => (lV ga bi rb _ _ [1, 2, 3, 4, 5, 6, 7, 8, 9, 10, 1, 2, 3] w hblk ⟨z38, z38, trivial⟩ hb (by omega) (by decide))) ?_
 rintro v cs L ⟨k, rfl, _, rfl, rfl⟩
 refine bN _ sX rfl rfl rfl rfl ⟨rfl, rfl⟩ rfl rfl (fun A w ga hga hW hblk => (kG ga bi rb _ _ w hblk ⟨z38, trivial⟩ hb (by omega))) ?_
 rintro v cs L ⟨on, rfl, _, _, rfl, rfl⟩
 refine CaseB.mk (fun e2 => ?_) (fun e2 => ?_)
 refine CaseB.mk (fun _ => ?_) (fun h => by rw [e2] at h; cases h)
 refine AllSl.mk fun l2 => ?_
 refine bN _ rH rfl rfl rfl rfl ⟨rfl, rfl⟩ rfl rfl (fun A w ga hga hW hblk => (lV ga bi rb _ _ [1, 1, 2] w hblk ⟨z38, z38, trivial⟩ hb (by omega) (by decide))) ?_
 rintro v cs L ⟨a, rfl, _, rfl, rfl⟩
 rotate_left
 refine CaseB.mk (fun e3 => ?_) (fun e3 => ?_)
 refine AllSl.mk fun l2 => ?_
 refine bN _ rH rfl rfl rfl rfl ⟨rfl, rfl⟩ rfl rfl (fun A w ga hga hW hblk => (lV ga bi rb _ _ [1, 1, 2] w hblk ⟨z38, z38, trivial⟩ hb (by omega) (by decide))) ?_
 rintro v cs L ⟨a, rfl, _, rfl, rfl⟩
 rotate_left
 refine CaseB.mk (fun e5 => ?_) (fun e5 => ?_)
 refine AllSl.mk fun l2 => ?_
 refine bN _ rH rfl rfl rfl rfl ⟨rfl, rfl⟩ rfl rfl (fun A w ga hga hW hblk => (lV ga bi rb _ _ [-1, 1, -2] w hblk ⟨z38, z38, trivial⟩ hb (by omega) (by decide))) ?_
 rintro v cs L ⟨a, rfl, _, rfl, rfl⟩
 rotate_left
 refine CaseB.mk (fun e1 => ?_) (fun e1 => ?_)
 refine CaseB.mk (fun _ => ?_) (fun h => by rw [e1] at h; cases h)
 refine AllSl.mk fun l2 => ?_
 refine bN _ rH rfl rfl rfl rfl ⟨rfl, rfl⟩ rfl rfl (fun A w ga hga hW hblk => (lV ga bi rb _ _ [7, 1, 2, 99] w hblk ⟨z38, z38, trivial⟩ hb (by omega) (by decide))) ?_
 rintro v cs L ⟨a, rfl, _, rfl, rfl⟩
 rotate_left
 refine CaseB.mk (fun e4 => ?_) (fun e4 => ?_)
 refine CaseB.mk (fun _ => ?_) (fun h => by rw [e4] at h; cases h)
 refine AllSl.mk fun l2 => ?_
 refine bN _ rH rfl rfl rfl rfl ⟨rfl, rfl⟩ rfl rfl (fun A w ga hga hW hblk => (lV ga bi rb _ _ [7, 1, 2, 99] w hblk ⟨z38, z38, trivial⟩ hb (by omega) (by decide))) ?_
 rintro v cs L ⟨a, rfl, _, rfl, rfl⟩
 rotate_left
 refine CaseB.mk (fun e8 => ?_) (fun e8 => ?_)
 refine AllSl.mk fun l2 => ?_
 refine bN _ rH rfl rfl rfl rfl ⟨rfl, rfl⟩ rfl rfl (fun A w ga hga hW hblk => (lV ga bi rb _ _ [7, 1, 2, 99] w hblk ⟨z38, z38, trivial⟩ hb (by omega) (by decide))) ?_
 rintro v cs L ⟨a, rfl, _, rfl, rfl⟩
 rotate_left
 · refine aB _ wT rfl rfl rfl rfl ⟨rfl, rfl⟩ (fun A w hW => (jL q ⟨k, (on : Int), 0⟩ w ⟨hW.get 2 rfl (.refl _), trivial⟩)) ?_
   rintro v L ⟨b1, rfl, hb1, rfl⟩
   refine CaseB.mk (fun g1 => ?_) (fun g1 => ?_)
   · refine aB _ wT rfl rfl rfl rfl ⟨rfl, rfl⟩ (fun A w hW => (jL q ⟨k, 0, 0⟩ w ⟨hW.get 2 rfl (.refl _), trivial⟩)) ?_
     rintro v L ⟨b2, rfl, hb2, rfl⟩
     refine CaseB.mk (fun g2 => ?_) (fun g2 => ?_)
     · refine bN _ sX rfl rfl rfl rfl ⟨rfl, rfl⟩ rfl rfl (fun A w ga hga hW hblk => (kG ga bi rb _ _ w hblk ⟨z38, trivial⟩ hb (by omega))) ?_
       rintro v cs L ⟨e, rfl, he, _, rfl, rfl⟩
       have he9 := he (by decide)
       exact mN [] ⟨⟨1, 0, (e : Int)⟩, _, rfl, (jM0 rfl).2 ⟨rfl, by simp [aW]; omega⟩, rfl, by omega, rfl⟩ rfl rfl trivial rfl trivial (fun _ => rfl)
     · exact mN [] ⟨⟨k, 0, 0⟩, _, rfl, hb2.1 z98, rfl, by omega, rfl⟩ rfl rfl trivial rfl trivial (fun _ => rfl)
   · have e1 : b1 = true := by simpa using g1
     refine aB _ wT rfl rfl rfl rfl ⟨rfl, rfl⟩ (fun A w hW => (jL q ⟨k, (on : Int), 0⟩ w ⟨hW.get 2 rfl (.refl _), trivial⟩)) ?_
     rintro v L ⟨b2, rfl, hb2, rfl⟩
     refine CaseB.mk (fun g2 => by rw [hb2.2 (hb1.1 e1)] at g2; cases g2) (fun _ => ?_)
     exact mN [] ⟨⟨k, (on : Int), 0⟩, _, rfl, hb1.1 e1, rfl, by omega, rfl⟩ rfl rfl trivial rfl trivial (fun _ => rfl)
 all_goals
   refine aB _ wT rfl rfl rfl rfl ⟨rfl, rfl⟩ (fun A w hW => (jL q ⟨k, (on : Int), a⟩ w ⟨hW.get 3 rfl (.refl _), trivial⟩)) ?_
   rintro v L ⟨b1, rfl, hb1, rfl⟩
   refine CaseB.mk (fun g1 => ?_) (fun g1 => ?_)
   · refine aB _ wT rfl rfl rfl rfl ⟨rfl, rfl⟩ (fun A w hW => (jL q ⟨k, 0, a⟩ w ⟨hW.get 3 rfl (.refl _), trivial⟩)) ?_
     rintro v L ⟨b2, rfl, hb2, rfl⟩
     refine CaseB.mk (fun g2 => ?_) (fun g2 => ?_)
     · refine bN _ sX rfl rfl rfl rfl ⟨rfl, rfl⟩ rfl rfl (fun A w ga hga hW hblk => (kG ga bi rb _ _ w hblk ⟨z38, trivial⟩ hb (by omega))) ?_
       rintro v cs L ⟨e, rfl, he, _, rfl, rfl⟩
       have he9 := he (by decide)
       exact mN [] ⟨⟨1, 0, (e : Int)⟩, _, rfl, (jM0 rfl).2 ⟨rfl, by simp [aW]; omega⟩, rfl, by omega, rfl⟩ rfl rfl trivial rfl trivial (fun _ => rfl)
     · exact mN [] ⟨⟨k, 0, a⟩, _, rfl, hb2.1 z98, rfl, by omega, rfl⟩ rfl rfl trivial rfl trivial (fun _ => rfl)
   · have e1 : b1 = true := by simpa using g1
     refine aB _ wT rfl rfl rfl rfl ⟨rfl, rfl⟩ (fun A w hW => (jL q ⟨k, (on : Int), a⟩ w ⟨hW.get 3 rfl (.refl _), trivial⟩)) ?_
     rintro v L ⟨b2, rfl, hb2, rfl⟩
     refine CaseB.mk (fun g2 => by rw [hb2.2 (hb1.1 e1)] at g2; cases g2) (fun _ => ?_)
     exact mN [] ⟨⟨k, (on : Int), a⟩, _, rfl, hb1.1 e1, rfl, by omega, rfl⟩ rfl rfl trivial rfl trivial (fun _ => rfl)
end Go.Proofs.YtijmjecehppbfaaGreat
