/- FnFormatState: texts that its proof stands on, part 7. -/
import Derived.Test.YtchkcjeeknfchaaGreatDoorQFormatStatef
namespace Go.Proofs.YtchkcjeeknfchaaGreatDoor
set_option maxRecDepth 100000
set_option maxHeartbeats 100000000
open Go Go.Sx Go.RowKit
theorem pT {C : Nat} : ∀ {xs : List Str}, (∀ x ∈ xs, x.length ≤ C) → (dS xs).length ≤ xs.length * (C + 1)
 | [], _ => by simp [dS]
 | [x], h => by have := h x (.head _); simp only [dS, List.length_cons, List.length_nil]; omega
 | x :: y :: r, h => by
   have ih := pT (xs := y :: r) (C := C) (fun z hz => h z (.tail _ hz))
   have := h x (.head _)
   have e : (x :: y :: r).length * (C + 1) = (y :: r).length * (C + 1) + (C + 1) := by rw [List.length_cons (a := x), Nat.succ_mul]
   rw [dS, e]
   simp only [List.length_append, List.length_cons] at ih ⊢
   omega
theorem cL0 (a t : Int) : (lJ a t).length ≤ 21 := by
 have := gG a
 have := sZ t
 rw [lJ, List.length_append]; omega
theorem tX : ∀ {ps ts : List Int} {x : Str}, x ∈ cD ps ts → x.length ≤ 21
 | [], _, _, h => by simp [cD] at h
 | _ :: _, [], _, h => by simp [cD] at h
 | a :: ps, t :: ts, x, h => by
   rw [cD] at h
   rcases List.mem_cons.1 h with rfl | h
   · exact cL0 a t
   · exact tX h
theorem qU {s : State} {x : Str} (h : x ∈ nS s) : x.length ≤ 21 := by
 rw [nS] at h
 rcases List.mem_append.1 h with h | h
 · exact tX h
 rcases List.mem_cons.1 h with rfl | h
 · decide
 · obtain ⟨v, _, rfl⟩ := List.mem_map.1 h
   have := gG v; omega
theorem cM0 (p : ProgH) (s : StateH) (w : World) (h : At w [fR (bD p), fR (aJ s)]) (hp : p.pure.small20) (hs : s.pure.small20) :
   Calls Tryz.prog 10 #[eJ p, aM s] w (Ret w (dW0 p s)) := by
 have hb : s.status.length ≤ 1048576 := hs.2.1
 refine cN Tryz.func10 rfl aA w _ rfl _ rfl _ h ⟨rfl, rfl, rfl, rfl, trivial⟩ _ _ (by decide) ?_
 refine aB _ cl14 rfl rfl rfl rfl ⟨rfl, rfl⟩ (fun A w hW => tW p s w ⟨hW.get 0 rfl (.refl _), hW.get 1 rfl (.refl _), trivial⟩ hp hs) ?_
 rintro v L ⟨b, rfl, hbb, rfl⟩
 apply CaseB.mk <;> intro g
 · have n : ¬ Fits p.pure s.pure := fun e => by rw [hbb.2 e] at g; cases g
   exact aG ⟨[], rfl, fun e => (n e).elim, fun _ => rfl, rfl⟩ (fun _ => rfl)
 have ft := hbb.1 z85
 obtain ⟨hlen, h1, h4, hpl, hsl, hsd, f0, f4⟩ := ft.textOk
 have hpn : (cD s.places s.status).length = s.places.length := jT hlen
 refine LoopW.mk ⟨{ q : Nat × Sl × List Str // q.1 ≤ s.places.length ∧ q.2.2 = (cD s.places s.status).take q.1 },
   fun q => .mk [(3, .p 1 0), (5, .v (q.1.2.1.val q.1.2.2.length)), (15, .v (s.h0.val s.places.length)), (16, .v (.int .i64 (s.places.length : Int))), (17, .v (.int .i64 (q.1.1 : Int)))] 2 0 [(0, 38, 5), (1, 46, 9)] [((1, 0), .v (s.h0.val s.places.length)), ((1, 1), .v (s.h1.val s.status.length)), ((1, 7), .v (s.h7.val s.said.length)), ((1, 8), .v (.int .i64 s.fault))] [own q.1.2.1 9 pZ 1 q.1.2.2, fR (aJ s)],
   fun q => s.places.length - q.1.1, ⟨(0, ⟨none, 0⟩, []), Nat.zero_le _, rfl⟩, ?_, ?_⟩
 · exact aC [90, 1] zw2 zw0 zw2 zw5 zw4 rfl rfl
 rintro ⟨⟨i, y, xs⟩, i1, i2⟩
 simp only at i1 i2 ⊢
 have xl : xs.length = i := by rw [i2, List.length_take]; omega
 apply CaseB.mk <;> intro g
 · have hlt : i < s.places.length := by simpa using g
   have hlt2 : i < s.status.length := by omega
   have hw := bA i _ hlt (by omega)
   obtain ⟨⟨a0, a8⟩, t0, t3⟩ := hpl i hlt hlt2
   obtain ⟨j, hjl, hj, hsg⟩ := vX _ t0 t3
   have sl := sZ s.status[i]
   have dl := gG s.places[i]
   have nx := tU hlen hlt hlt2
   rw [← i2] at nx
   refine aF aI aA rfl rfl rfl rfl rfl ⟨rfl, rfl⟩ (aN 1 rfl (.ofR (fY s))) i rfl z37 (fun ad => ?_)
   have hd1 : s.places[i] < 100 := by omega
   refine aV0 aA z88 z88 z88 200 [((1, 1), .v (s.h1.val s.status.length))] [1] [_] z117 z120 ⟨rfl, trivial⟩ rfl ?_
   refine bM (ti := aZ tab) aI aA rfl rfl rfl rfl rfl ⟨rfl, rfl⟩ (aN 0 rfl (.ofR (cR s))) i rfl z37 (fun ad2 => ?_)
   have hle : (dF s.places[i]).length + (signsL[j]).length ≤ 9223372036854775807 := by rw [hsg]; omega
   have hp : dF s.places[i] ++ signsL[j] = lJ s.places[i] s.status[i] := by rw [hsg]; rfl
   refine BothW.mk ?_ ?_
   refine bV _ jG0 rfl rfl rfl rfl ⟨rfl, rfl⟩ (fun A w hW => (yW _ w a0 hd1)) ?_
   rintro v L ⟨rfl, rfl⟩
   refine AllN.mk fun g0 => ?_
   refine mI (ti := aZ tab) aA rfl rfl rfl rfl rfl ⟨rfl, rfl⟩ rfl j hj hjl ?_
   refine rJ dW 0 (xs := signsL) aA rfl rfl rfl ⟨rfl, rfl⟩ rfl rfl j 0 rfl hjl rfl ?_
   rotate_left
   refine AllN.mk fun g0 => ?_
   refine mI (ti := aZ tab) aA rfl rfl rfl rfl rfl ⟨rfl, rfl⟩ rfl j hj hjl ?_
   refine BothW.mk ?_ ?_
   refine bV _ jG0 rfl rfl rfl rfl ⟨rfl, rfl⟩ (fun A w hW => (yW _ w a0 hd1)) ?_
   rintro v L ⟨rfl, rfl⟩
   refine rJ dW 0 (xs := signsL) aA rfl rfl rfl ⟨rfl, rfl⟩ rfl rfl j 0 rfl hjl rfl ?_
   rotate_left
   refine rJ dW 0 (xs := signsL) aA rfl rfl rfl ⟨rfl, rfl⟩ rfl rfl j 0 rfl hjl rfl ?_
   refine bV _ jG0 rfl rfl rfl rfl ⟨rfl, rfl⟩ (fun A w hW => (yW _ w a0 hd1)) ?_
   rintro v L ⟨rfl, rfl⟩
   rotate_left
   all_goals
     refine jB rfl rfl rfl ⟨rfl, rfl⟩ (.string (bs ((dF s.places[i]) ++ (signsL[j])))) (fun w => aO w) (fun w => bP hle w) ?_
     rw [hp]
     refine AllN.mk fun g1 => ?_
     refine dB (ti := aZ tab) dW 2 aA (xs := xs) (ys := [lJ s.places[i] s.status[i]]) rfl rfl rfl rfl rfl rfl rfl rfl rfl (by decide) ⟨rfl, rfl⟩ rfl z31 z37 z37 z86 (fun z => ?_)
     refine ⟨⟨(i + 1, z, xs ++ [lJ s.places[i] s.status[i]]), by omega, nx.symm⟩, ?_, by simp only; omega⟩
     exact aC [0, 3] zw1 zw0 zw1 zw5 zw3 rfl rfl
 have hie : i = s.places.length := by have := of_decide_eq_false g; omega
 subst hie
 rw [List.take_of_length_le (by omega)] at i2
 refine AllSl.mk fun b1 => ?_
 refine bR dW 1 aA (xs := xs) (ys := [[124]]) rfl rfl rfl rfl rfl rfl rfl rfl rfl (by decide) ⟨rfl, rfl⟩ rfl z31 z37 z37 (fun z1 => ?_)
 have e2 : xs ++ [[124]] = (cD s.places s.status ++ [[124]]) ++ (s.said.map dF).take 0 := by rw [i2, List.take_zero, List.append_nil]
 have l2 : (xs ++ [[124]]).length ≤ 5 := by rw [List.length_append, xl]; simp; omega
 generalize xs ++ [[124]] = xs1 at e2 l2 ⊢
 refine LoopW.mk ⟨{ q : Nat × Sl × List Str // q.1 ≤ s.said.length ∧ q.2.2 = (cD s.places s.status ++ [[124]]) ++ (s.said.map dF).take q.1 ∧ q.2.2.length ≤ 5 + q.1 },
   fun q => .mk [(3, .p 1 0), (5, .v (q.1.2.1.val q.1.2.2.length)), (41, .v (s.h7.val s.said.length)), (42, .v (.int .i64 (s.said.length : Int))), (43, .v (.int .i64 (q.1.1 : Int)))] 2 0 [(0, 38, 5), (1, 46, 9)] [((1, 8), .v (.int .i64 s.fault))] [own q.1.2.1 9 pZ 1 q.1.2.2, fR (aJ s)],
   fun q => s.said.length - q.1.1, ⟨(0, z1, xs1), Nat.zero_le _, e2, l2⟩, ?_, ?_⟩
 · exact aC [0, 2] zw2 zw0 zw2 zw5 zw4 rfl rfl
 rintro ⟨⟨k, y2, ys⟩, k1, k2, k3⟩
 simp only at k1 k2 k3 ⊢
 apply CaseB.mk <;> intro g
 · have hlt : k < s.said.length := by simpa using g
   have hw := bA k _ hlt (by omega)
   obtain ⟨a0, a9⟩ := hsd k hlt
   have hd1 : s.said[k] < 100 := by omega
   refine aF aI aA rfl rfl rfl rfl rfl ⟨rfl, rfl⟩ (aN 1 rfl (.ofR (jP s))) k rfl z37 (fun ad => ?_)
   refine aB _ jG0 rfl rfl rfl rfl ⟨rfl, rfl⟩ (fun A w hW => (yW _ w a0 hd1)) ?_
   rintro v L ⟨rfl, rfl⟩
   refine AllSl.mk fun b2 => ?_
   refine bR dW 1 aA (xs := ys) (ys := [dF s.said[k]]) rfl rfl rfl rfl rfl rfl rfl rfl rfl (by decide) ⟨rfl, rfl⟩ rfl z31 z37 z37 (fun z2 => ?_)
   have hnl : (ys ++ [dF s.said[k]]).length ≤ 5 + (k + 1) := by rw [List.length_append]; simp; omega
   refine ⟨⟨(k + 1, z2, ys ++ [dF s.said[k]]), by omega, by rw [k2, dX0 s hlt, List.append_assoc], hnl⟩, ?_, by simp only; omega⟩
   exact aC [0, 2] zw1 zw0 zw1 zw5 zw3 rfl rfl
 have hke : k = s.said.length := by have := of_decide_eq_false g; omega
 subst hke
 rw [List.take_of_length_le (by rw [List.length_map]; omega)] at k2
 have hA : (cD s.places s.status ++ [[124]]) ++ s.said.map dF = nS s.pure := by rw [List.append_assoc]; rfl
 rw [hA] at k2
 have hne : ys ≠ [] := by rw [k2, ← hA]; simp
 apply CaseB.mk <;> intro g
 · have n0 : ¬ s.fault = 0 := by simpa using g
   obtain ⟨j, hjl, hj, hsg⟩ := tT _ f0 f4
   have fl := qS s.fault
   refine AllSl.mk fun b3 => ?_
   refine aF dW aA rfl rfl rfl rfl rfl ⟨rfl, rfl⟩ (bF 0 rfl) j hj z37 (fun ad => ?_)
   refine AllSl.mk fun b4 => ?_
   refine bR dW 2 aA (xs := ys) (ys := [[102, 97, 117, 108, 116], faultsL[j]]) rfl rfl rfl rfl rfl rfl rfl rfl rfl (by decide) ⟨rfl, rfl⟩ rfl z31 z37 z37 (fun z3 => ?_)
   have e3 : qD s.pure = dS (ys ++ [[102, 97, 117, 108, 116], faultsL[j]]) := by rw [pB, if_neg (show ¬ s.pure.fault = 0 from n0), k2, hsg]; rfl
   have l3 : (ys ++ [[102, 97, 117, 108, 116], faultsL[j]]).length ≤ 100 := by rw [List.length_append]; simp; omega
   have m3 : ∀ x ∈ ys ++ [[102, 97, 117, 108, 116], faultsL[j]], x.length ≤ 21 := fun x hx => by
     rcases List.mem_append.1 hx with hx | hx
     · rw [k2] at hx; exact qU hx
     · rcases List.mem_cons.1 hx with rfl | hx
       · decide
       · rcases List.mem_singleton.1 hx with rfl
         rw [hsg]; omega
   have p3 : 0 < (ys ++ [[102, 97, 117, 108, 116], faultsL[j]]).length := by simp
   generalize ys ++ [[102, 97, 117, 108, 116], faultsL[j]] = zs at e3 l3 m3 p3 ⊢
   have jl := pT m3
   refine aE0 0 rfl p3 (fun g3 hg3 _ _ => ?_)
   refine aB _ cl32 rfl rfl rfl rfl ⟨rfl, rfl⟩ (fun A w hW => (hV0 z3 g3 hg3 zs w ⟨hW.rdOwn 0 rfl, trivial⟩ p3 (by omega) (by omega))) ?_
   rintro v L ⟨rfl, rfl⟩
   exact aG ⟨_, rfl, fun _ => e3.symm, fun e => (e ft).elim, rfl⟩ (fun _ => rfl)
 have z0 : s.fault = 0 := by simpa using g
 have e3 : qD s.pure = dS ys := by rw [pB, if_pos (show s.pure.fault = 0 from z0), List.append_nil, ← k2]
 have m3 : ∀ x ∈ ys, x.length ≤ 21 := fun x hx => by rw [k2] at hx; exact qU hx
 have p3 : 0 < ys.length := List.length_pos_iff.2 hne
 have jl := pT m3
 refine aE0 0 rfl p3 (fun g3 hg3 _ _ => ?_)
 refine aB _ cl32 rfl rfl rfl rfl ⟨rfl, rfl⟩ (fun A w hW => (hV0 y2 g3 hg3 ys w ⟨hW.rdOwn 0 rfl, trivial⟩ p3 (by omega) (by omega))) ?_
 rintro v L ⟨rfl, rfl⟩
 exact aG ⟨_, rfl, fun _ => e3.symm, fun e => (e ft).elim, rfl⟩ (fun _ => rfl)
theorem xR (k : Int) : gU k = 0 ∨ gU k = 1 ∨ gU k = 2 := by
 unfold gU
 split
 · exact .inr (.inl rfl)
 · split
   · exact .inl rfl
   · exact .inr (.inr rfl)
theorem dZ0 {ns : List Int} (h : ns.length = 1) : ∃ a, ns = [a] := by
 match ns, h with
 | [a], _ => exact ⟨a, rfl⟩
theorem kC0 {ns : List Int} (h : ns.length = 2) : ∃ a b, ns = [a, b] := by
 match ns, h with
 | [a, b], _ => exact ⟨a, b, rfl⟩
theorem tB {k : Int} {ns : List Int} (h : (gU k = 0 ∨ gU k = 1) → ns.length ≠ 1) (h2 : gU k = 2 → ns.length ≠ 2) : lI k ns = none := by
 unfold lI
 rcases xR k with e | e | e
 · rw [if_pos e]
   split
   · exact (h (.inl e) rfl).elim
   · rfl
 · rw [if_neg (by omega), if_pos e]
   split
   · exact (h (.inr e) rfl).elim
   · rfl
 · rw [if_neg (by omega), if_neg (by omega)]
   split
   · exact (h2 e rfl).elim
   · rfl
theorem mK0 (k : Int) (i : Sl) (ns : List Int) (w : World) (h : At w [slo i aL 1 ns]) :
   Calls Tryz.prog 178 #[.int .i64 k, i.val ns.length] w (Ret w fun v L => v = .tuple #[.agg (cOp ((lI k ns).getD Op0)).toArray, .bool (lI k ns).isSome] ∧ L = []) := by
 refine cN Tryz.func178 rfl aA w _ rfl _ rfl _ h ⟨rfl, rfl, trivial⟩ _ _ (by decide) ?_
 refine aB _ tJ rfl rfl rfl rfl ⟨rfl, rfl⟩ (fun A w hW => (pD k w)) ?_
 rintro v L ⟨rfl, rfl⟩
 apply CaseB.mk <;> intro g
 · have a0 : gU k = 0 := by simpa using g
   refine CaseB.mk (fun g2 => ?_) (fun g2 => ?_)
   · obtain ⟨a, rfl⟩ := dZ0 (ns := ns) (by have g' : (ns.length : Int) = 1 := z82; omega)
     refine aF aI aA rfl rfl rfl rfl rfl ⟨rfl, rfl⟩ z31 0 rfl z37 (fun ad => ?_)
     have e : lI k [a] = some ⟨k, 0, a⟩ := by rw [lI, if_pos a0]
     rw [e]
     exact aG ⟨rfl, rfl⟩ (fun _ => rfl)
   have hl : ns.length ≠ 1 := fun h => by rw [h] at g2; simp at g2
   rw [tB (fun _ => hl) (fun e => by omega)]
   refine aB _ tJ rfl rfl rfl rfl ⟨rfl, rfl⟩ (fun A w hW => (pD k w)) ?_
   rintro v L ⟨rfl, rfl⟩
   refine CaseB.mk (fun g3 => by rw [a0] at g3; simp at g3) (fun _ => ?_)
   refine aB _ tJ rfl rfl rfl rfl ⟨rfl, rfl⟩ (fun A w hW => (pD k w)) ?_
   rintro v L ⟨rfl, rfl⟩
   refine CaseB.mk (fun g3 => by rw [a0] at g3; simp at g3) (fun _ => ?_)
   exact aG ⟨rfl, rfl⟩ (fun _ => rfl)
 have n0 : ¬ gU k = 0 := by simpa using g
 refine aB _ tJ rfl rfl rfl rfl ⟨rfl, rfl⟩ (fun A w hW => (pD k w)) ?_
 rintro v L ⟨rfl, rfl⟩
 apply CaseB.mk <;> intro g
 · have a0 : gU k = 1 := by simpa using g
   refine CaseB.mk (fun g2 => ?_) (fun g2 => ?_)
   · obtain ⟨a, rfl⟩ := dZ0 (ns := ns) (by have g' : (ns.length : Int) = 1 := z82; omega)
     refine aF aI aA rfl rfl rfl rfl rfl ⟨rfl, rfl⟩ z31 0 rfl z37 (fun ad => ?_)
     have e : lI k [a] = some ⟨k, a, 0⟩ := by rw [lI, if_neg n0, if_pos a0]
     rw [e]
     exact aG ⟨rfl, rfl⟩ (fun _ => rfl)
   have hl : ns.length ≠ 1 := fun h => by rw [h] at g2; simp at g2
   rw [tB (fun _ => hl) (fun e => by omega)]
   refine aB _ tJ rfl rfl rfl rfl ⟨rfl, rfl⟩ (fun A w hW => (pD k w)) ?_
   rintro v L ⟨rfl, rfl⟩
   refine CaseB.mk (fun g3 => by rw [a0] at g3; simp at g3) (fun _ => ?_)
   exact aG ⟨rfl, rfl⟩ (fun _ => rfl)
 have n1 : ¬ gU k = 1 := by simpa using g
 have a2 : gU k = 2 := by have := xR k; omega
 refine aB _ tJ rfl rfl rfl rfl ⟨rfl, rfl⟩ (fun A w hW => (pD k w)) ?_
 rintro v L ⟨rfl, rfl⟩
 refine CaseB.mk (fun g => ?_) (fun g => by rw [a2] at g; simp at g)
 refine CaseB.mk (fun g2 => ?_) (fun g2 => ?_)
 · obtain ⟨a, b, rfl⟩ := kC0 (ns := ns) (by have g' : (ns.length : Int) = 2 := z82; omega)
   refine aF aI aA rfl rfl rfl rfl rfl ⟨rfl, rfl⟩ z31 0 rfl z37 (fun ad => ?_)
   refine aF aI aA rfl rfl rfl rfl rfl ⟨rfl, rfl⟩ z31 1 rfl z37 (fun ad => ?_)
   have e : lI k [a, b] = some ⟨k, a, b⟩ := by rw [lI, if_neg n0, if_neg n1]
   rw [e]
   exact aG ⟨rfl, rfl⟩ (fun _ => rfl)
 have hl : ns.length ≠ 2 := fun h => by rw [h] at g2; simp at g2
 rw [tB (fun e => by omega) (fun _ => hl)]
 exact aG ⟨rfl, rfl⟩ (fun _ => rfl)
def Op.near (o : Op) : Prop := -1000000000000000000 < o.on ∧ o.on < 1000000000000000000 ∧ -1000000000000000000 < o.arg ∧ o.arg < 1000000000000000000
theorem yX (o : Op) (w : World) (hn : o.near) :
   Calls Tryz.prog 168 #[.agg (cOp o).toArray] w (Ret w fun v L => v = .string (bs (fC o)) ∧ L = []) := by
 obtain ⟨h1, h2, h3, h4⟩ := hn
 have lw := xL o.kind
 have l1 := gG o.on
 have l2 := gG o.arg
 refine bU Tryz.func168 rfl aA w _ rfl _ rfl [] trivial trivial _ (by decide) ?_
 refine aB _ gJ0 rfl rfl rfl rfl ⟨rfl, rfl⟩ (fun A w hW => (hR0 o.kind w)) ?_
 rintro v L ⟨rfl, rfl⟩
 refine bJ rfl rfl rfl ⟨rfl, rfl⟩ (.bool ((eW o.kind) == [])) (fun w => aO w) (fun w => uO w) ?_
 apply CaseB.mk <;> intro g
 · have e : fC o = [] := if_pos z85
   rw [e]
   exact aG ⟨rfl, rfl⟩ (fun _ => rfl)
 have e0 : eW o.kind ≠ [] := by simpa using g
 refine aB _ tJ rfl rfl rfl rfl ⟨rfl, rfl⟩ (fun A w hW => (pD o.kind w)) ?_
 rintro v L ⟨rfl, rfl⟩
 apply CaseB.mk <;> intro g
 · have a0 : gU o.kind = 0 := by simpa using g
   refine bJ rfl rfl rfl ⟨rfl, rfl⟩ (.string (bs ((eW o.kind) ++ [32]))) (fun w => aO w) (fun w => bP z65 w) ?_
   refine aB _ aA0 rfl rfl rfl rfl ⟨rfl, rfl⟩ (fun A w hW => (vZ o.arg w h3 h4)) ?_
   rintro v L ⟨rfl, rfl⟩
   refine bJ rfl rfl rfl ⟨rfl, rfl⟩ (.string (bs ((eW o.kind ++ [32]) ++ (dF o.arg)))) (fun w => aO w) (fun w => bP z51 w) ?_
   have e : fC o = (eW o.kind ++ [32]) ++ dF o.arg := by rw [fC, if_neg e0, if_pos a0]
   rw [e]
   exact aG ⟨rfl, rfl⟩ (fun _ => rfl)
 have n0 : ¬ gU o.kind = 0 := by simpa using g
 refine aB _ tJ rfl rfl rfl rfl ⟨rfl, rfl⟩ (fun A w hW => (pD o.kind w)) ?_
 rintro v L ⟨rfl, rfl⟩
 apply CaseB.mk <;> intro g
 · have a1 : gU o.kind = 1 := by simpa using g
   refine bJ rfl rfl rfl ⟨rfl, rfl⟩ (.string (bs ((eW o.kind) ++ [32]))) (fun w => aO w) (fun w => bP z65 w) ?_
   refine aB _ aA0 rfl rfl rfl rfl ⟨rfl, rfl⟩ (fun A w hW => (vZ o.on w h1 h2)) ?_
   rintro v L ⟨rfl, rfl⟩
   refine bJ rfl rfl rfl ⟨rfl, rfl⟩ (.string (bs ((eW o.kind ++ [32]) ++ (dF o.on)))) (fun w => aO w) (fun w => bP z51 w) ?_
   have e : fC o = (eW o.kind ++ [32]) ++ dF o.on := by rw [fC, if_neg e0, if_neg n0, if_pos a1]
   rw [e]
   exact aG ⟨rfl, rfl⟩ (fun _ => rfl)
 have n1 : ¬ gU o.kind = 1 := by simpa using g
 have e : fC o = (((eW o.kind ++ [32]) ++ dF o.on) ++ [32]) ++ dF o.arg := by rw [fC, if_neg e0, if_neg n0, if_neg n1]
 rw [e]
 refine aH aA z88 z88 z88 200 [((0, 1), .v (.int .i64 o.on)), ((0, 2), .v (.int .i64 o.arg))] [] [] z107 z116 trivial rfl ?_
 refine jB rfl rfl rfl ⟨rfl, rfl⟩ (.string (bs ((eW o.kind) ++ [32]))) (fun w => aO w) (fun w => bP z65 w) ?_
 refine bV _ aA0 rfl rfl rfl rfl ⟨rfl, rfl⟩ (fun A w hW => (vZ o.on w h1 h2)) ?_
 rintro v L ⟨rfl, rfl⟩
 refine jB rfl rfl rfl ⟨rfl, rfl⟩ (.string (bs ((eW o.kind ++ [32]) ++ (dF o.on)))) (fun w => aO w) (fun w => bP z51 w) ?_
 refine jB rfl rfl rfl ⟨rfl, rfl⟩ (.string (bs (((eW o.kind ++ [32]) ++ dF o.on) ++ [32]))) (fun w => aO w) (fun w => bP z51 w) ?_
 refine bV _ aA0 rfl rfl rfl rfl ⟨rfl, rfl⟩ (fun A w hW => (vZ o.arg w h3 h4)) ?_
 rintro v L ⟨rfl, rfl⟩
 refine jB rfl rfl rfl ⟨rfl, rfl⟩ (.string (bs ((((eW o.kind ++ [32]) ++ dF o.on) ++ [32]) ++ (dF o.arg)))) (fun w => aO w) (fun w => bP z51 w) ?_
 exact aG ⟨rfl, rfl⟩ (fun _ => rfl)
theorem xS : ∀ (s : Str) (n m : Int) (k : Nat), 0 ≤ n → n < ((10 ^ k : Nat) : Int) → rV n s = some m → 0 ≤ m ∧ m < ((10 ^ (k + s.length) : Nat) : Int)
 | [], n, m, k, h0, h1, h => by simp only [rV, Option.some.injEq] at h; subst h; exact ⟨h0, h1⟩
 | x :: r, n, m, k, h0, h1, h => by
   simp only [rV] at h
   split at h
   · cases h
   · have hp : 10 ^ (k + 1) = 10 ^ k * 10 := Nat.pow_succ ..
     have := xS r (n * 10 + ((x.toNat : Int) - 48)) m (k + 1) (by omega) (by omega) h
     rw [show k + (x :: r).length = k + 1 + r.length by simp only [List.length_cons]; omega]
     exact this
def wA (n : Int) : Prop := -1000000000000000000 < n ∧ n < 1000000000000000000
theorem fB0 {s : Str} {n : Int} (h : sY s = some n) : wA n := by
 unfold sY at h
 split at h
 · cases h
 · rename_i hb
   have hl : (lY s).length ≤ 17 := Nat.le_of_not_lt fun h => hb (.inr (.inl h))
   cases e : rV 0 (lY s) with
   | none => rw [e] at h; cases h
   | some m =>
     rw [e] at h
     have h2 := xS _ 0 m 0 (by omega) (by decide) e
     have hp := cJ0 (show 0 + (lY s).length ≤ 17 by omega)
     have e17 : 10 ^ 17 = 100000000000000000 := rfl
     simp only [Option.map_some, Option.some.injEq] at h
     subst h
     unfold wA
     split <;> omega
theorem cN0 {k : Int} {ns : List Int} {o : Op} (hn : ∀ x ∈ ns, wA x) (h : lI k ns = some o) : o.near := by
 have z : wA 0 := ⟨by decide, by decide⟩
 unfold lI at h
 split at h
 · split at h
   · rename_i a; cases h; have := hn a (by simp); exact ⟨z.1, z.2, this.1, this.2⟩
   · cases h
 · split at h
   · split at h
     · rename_i a; cases h; have := hn a (by simp); exact ⟨this.1, this.2, z.1, z.2⟩
     · cases h
   · split at h
     · rename_i a b; cases h; have h1 := hn a (by simp); have h2 := hn b (by simp); exact ⟨h1.1, h1.2, h2.1, h2.2⟩
     · cases h
theorem cO0 (t w : Str) (ns : List Int) (f k : Nat) : oE t w ns (f + 1) k = if eW k = w then match lI k ns with | some o => if fC o = t then some o else oE t w ns f (k + 1) | none => oE t w ns f (k + 1) else oE t w ns f (k + 1) := rfl
theorem aW0 {s : Str} {r : List Str} : fK (s :: r) = match sY s with | none => none | some n => match fK r with | none => none | some l => some (n :: l) := rfl
def kC (ns : List Int) (o : Option (List Int)) : Option (List Int) := match o with | none => none | some l => some (ns ++ l)
theorem tY {ns : List Int} {s : Str} {r : List Str} {n : Int} (h : sY s = some n) : kC ns (fK (s :: r)) = kC (ns ++ [n]) (fK r) := by
 rw [aW0, h]
 cases fK r with
 | none => rfl
 | some l => simp [kC]
theorem tZ {ns : List Int} {s : Str} {r : List Str} (h : sY s = none) : kC ns (fK (s :: r)) = none := by
 rw [aW0, h]; rfl
theorem drop_take {α : Type} {xs : List α} {i m : Nat} (h : i < xs.length) : (xs.drop i).take (m + 1) = xs[i] :: (xs.drop (i + 1)).take m := by
 rw [List.drop_eq_getElem_cons h, List.take_succ_cons]
theorem xT (t : Str) (w : World) (hb : t.length ≤ 1000) :
   Calls Tryz.prog 166 #[.string (bs t)] w (Ret w fun v L => v = .tuple #[.agg (cOp ((eE t).getD Op0)).toArray, .bool (eE t).isSome] ∧ L = []) := by
 have hcl := rU 32 t
 have hpt : ∀ x ∈ fI 32 t, x.length ≤ 1000 := fun x hx => Nat.le_trans (pS hx) hb
 have hno : fK (((fI 32 t).drop 1).take 3) = none → eE t = none := fun h => by rw [eE, h]
 have hyes : ∀ ns, fK (((fI 32 t).drop 1).take 3) = some ns → eE t = if ns.length + 1 = (fI 32 t).length then oE t ((fI 32 t).headD []) ns 10 1 else none := fun ns h => by rw [eE, h]
 generalize eE t = M at hno hyes ⊢
 refine bU Tryz.func166 rfl aA w _ rfl _ rfl [] trivial trivial _ (by decide) ?_
 refine aB _ dH0 rfl rfl rfl rfl ⟨rfl, rfl⟩ (fun A w hW => (dV0 t 32 w (by omega))) ?_
 rintro v L ⟨y, rfl, rfl⟩
 generalize fI 32 t = ps at hcl hpt hno hyes ⊢
 refine AllSl.mk fun l0 => ?_
 refine LoopW.mk ⟨{ q : Nat × Sl × List Int // 1 ≤ q.1 ∧ q.1 ≤ 4 ∧ q.1 ≤ ps.length ∧ fK ((ps.drop 1).take 3) = kC q.2.2 (fK ((ps.drop q.1).take (4 - q.1))) ∧ q.2.2.length + 1 = q.1 ∧ ∀ x ∈ q.2.2, wA x },
   fun q => .mk [(0, .v (.string (bs t))), (2, .p 0 0), (4, .v (y.val ps.length)), (5, .v (q.1.2.1.val q.1.2.2.length)), (6, .v (.int .i64 (q.1.1 : Int)))] 1 0 [(0, 108, 3)] [] [own q.1.2.1 3 aL 1 q.1.2.2, own y 9 pZ 1 ps],
   fun q => 4 - q.1.1, ⟨(1, l0, []), Nat.le_refl _, by show 1 ≤ 4; omega, hcl.1, by simp only [kC, List.nil_append]; cases fK ((ps.drop 1).take (4 - 1)) <;> rfl, rfl, by simp⟩, ?_, ?_⟩
 · exact aC [0, 1] zw2 zw0 zw2 zw5 zw4 rfl rfl
 rintro ⟨⟨i, z, ns⟩, i1, i2, i3, i4, i5, i6⟩
 simp only at i1 i2 i3 i4 i5 i6 ⊢
 apply CaseB.mk <;> intro g
 refine CaseB.mk (fun g2 => ?_) (fun g2 => ?_)
 · have hlt : i < ps.length := by have := of_decide_eq_true g; omega
   have h4 : i < 4 := by have := of_decide_eq_true g2; omega
   have hw := bA i _ hlt (by omega)
   obtain ⟨m, hm⟩ : ∃ m, 4 - i = m + 1 := ⟨3 - i, by omega⟩
   have hd : (ps.drop i).take (4 - i) = ps[i] :: (ps.drop (i + 1)).take (4 - (i + 1)) := by rw [hm, drop_take hlt, show 4 - (i + 1) = m by omega]
   rw [hd] at i4
   refine aF dW aA rfl rfl rfl rfl rfl ⟨rfl, rfl⟩ (bF 1 rfl) i rfl z37 (fun ad => ?_)
   obtain ⟨pt, hpe⟩ : ∃ pt, pt = ps[i] := ⟨_, rfl⟩
   have hpl : pt.length ≤ 1000 := by rw [hpe]; exact hpt _ (List.getElem_mem hlt)
   rw [← hpe] at i4 ⊢
   refine aB _ kV0 rfl rfl rfl rfl ⟨rfl, rfl⟩ (fun A w hW => (hQ0 pt w (by omega))) ?_
   rintro v L ⟨rfl, rfl⟩
   cases hn : sY pt with
   | none =>
     refine CaseB.mk (fun g3 => ?_) (fun g3 => by simp at g3)
     obtain rfl := hno (i4.trans (tZ hn))
     exact aG ⟨rfl, rfl⟩ (fun _ => rfl)
   | some n =>
     refine CaseB.mk (fun g3 => by simp at g3) (fun g3 => ?_)
     refine AllSl.mk fun b3 => ?_
     refine bR aI 1 aA (xs := ns) (ys := [n]) rfl rfl rfl rfl rfl rfl rfl rfl rfl (by decide) ⟨rfl, rfl⟩ rfl z31 z37 z37 (fun z3 => ?_)
     refine ⟨⟨(i + 1, z3, ns ++ [n]), show 1 ≤ i + 1 by omega, h4, hlt, i4.trans (tY hn), by simp; omega, fun x hx => ?_⟩, ?_, by simp only; omega⟩
     · rcases List.mem_append.1 hx with hx | hx
       · exact i6 x hx
       · simp only [List.mem_singleton] at hx; subst hx; exact fB0 hn
     · exact aC [0, 2] zw1 zw0 zw1 zw5 zw3 rfl rfl
 have hfin : fK ((ps.drop 1).take 3) = some ns := by
   rw [i4, show 4 - i = 0 by have := of_decide_eq_false g2; omega, List.take_zero]
   simp [fK, kC]
 rotate_left
 have hfin : fK ((ps.drop 1).take 3) = some ns := by
   rw [i4, List.drop_eq_nil_of_le z72, List.take_nil]
   simp [fK, kC]
 rotate_left
 all_goals
   have hM := hyes ns hfin
   clear hno hyes hfin i4
   refine LoopW.mk ⟨{ q : Nat // 1 ≤ q ∧ q ≤ 11 ∧ (ns.length + 1 = ps.length → M = oE t (ps.headD []) ns (11 - q) q) },
     fun q => .mk [(0, .v (.string (bs t))), (2, .p 0 0), (4, .v (y.val ps.length)), (5, .v (z.val ns.length)), (9, .v (.int .i64 (q.1 : Int)))] 1 0 [(0, 108, 3)] [] [own z 3 aL 1 ns, own y 9 pZ 1 ps],
     fun q => 11 - q.1, ⟨1, Nat.le_refl _, by decide, fun h => by rw [hM, if_pos h]⟩, ?_, ?_⟩
   · exact aC [0, 1] zw2 zw0 zw2 zw5 zw4 rfl rfl
   rintro ⟨k, k1, k2, k3⟩
   simp only at k1 k2 k3 ⊢
   have hw1 : IntKind.i64.wrap ((ps.length : Int) - 1) = (ps.length : Int) - 1 := cE (by omega) (by omega)
   refine CaseB.mk (fun h => ?_) (fun h => ?_)
   · have hk : k ≤ 10 := by have := of_decide_eq_true h; omega
     have hw := bA k 11 (by omega) (by omega)
     refine CaseB.mk (fun h2 => ?_) (fun h2 => ?_)
     · have he : ns.length + 1 = ps.length := by rw [hw1] at h2; have h2' : (ns.length : Int) = (ps.length : Int) - 1 := (by simpa using h2); omega
       have hp0 : 0 < ps.length := by omega
       have hhd : ps.headD [] = ps[0] := by
         cases ps with
         | nil => simp at hp0
         | cons a r => rfl
       have hst := k3 he
       rw [show 11 - k = (11 - (k + 1)) + 1 by omega, cO0, hhd] at hst
       rw [hhd] at k3
       obtain ⟨wd, hwd⟩ : ∃ wd, wd = ps[0] := ⟨_, rfl⟩
       rw [← hwd] at hst k3
       refine aH aA z88 z88 z88 200 [] [1] [_] trivial trivial ⟨rfl, trivial⟩ rfl ?_
       refine bM (ti := aZ tab) dW aA rfl rfl rfl rfl rfl ⟨rfl, rfl⟩ z31 0 rfl z37 (fun ad => ?_)
       rw [← hwd]
       refine bV _ gJ0 rfl rfl rfl rfl ⟨rfl, rfl⟩ (fun A w hW => (hR0 (k : Int) w)) ?_
       rintro v L ⟨rfl, rfl⟩
       refine jB rfl rfl rfl ⟨rfl, rfl⟩ (.bool ((eW (k : Int)) != wd)) (fun w => aO w) (fun w => pQ w) ?_
       have hgo : ∀ hst2 : M = oE t wd ns (11 - (k + 1)) (k + 1), 1 ≤ k + 1 ∧ k + 1 ≤ 11 ∧ (ns.length + 1 = ps.length → M = oE t (ps.headD []) ns (11 - (k + 1)) (k + 1)) := fun e => ⟨by omega, by omega, fun _ => by rw [hhd, ← hwd]; exact e⟩
       refine CaseB.mk (fun h3 => ?_) (fun h3 => ?_)
       · have e : ¬ eW (k : Int) = wd := by simpa using h3
         rw [if_neg e] at hst
         refine ⟨⟨k + 1, hgo hst⟩, ?_, by simp only; omega⟩
         exact aC [0, 1] zw1 zw0 zw1 zw5 zw3 rfl rfl
       have e : eW (k : Int) = wd := by simpa using h3
       rw [if_pos e] at hst
       refine aB _ cl178 rfl rfl rfl rfl ⟨rfl, rfl⟩ (fun A w hW => (mK0 (k : Int) z ns w ⟨hW.rdOwn 0 rfl, trivial⟩)) ?_
       rintro v L ⟨rfl, rfl⟩
       cases hm : lI (k : Int) ns with
       | none =>
         rw [hm] at hst
         refine CaseB.mk (fun h4 => by simp at h4) (fun h4 => ?_)
         refine ⟨⟨k + 1, hgo hst⟩, ?_, by simp only; omega⟩
         exact aC [0, 1] zw1 zw0 zw1 zw5 zw3 rfl rfl
       | some o =>
         rw [hm] at hst
         simp only at hst
         refine CaseB.mk (fun h4 => ?_) (fun h4 => by simp at h4)
         refine aB _ gL0 rfl rfl rfl rfl ⟨rfl, rfl⟩ (fun A w hW => (yX o w (cN0 i6 hm))) ?_
         rintro v L ⟨rfl, rfl⟩
         refine bJ rfl rfl rfl ⟨rfl, rfl⟩ (.bool ((fC o) == t)) (fun w => aO w) (fun w => uO w) ?_
         refine CaseB.mk (fun h5 => ?_) (fun h5 => ?_)
         · have e5 : fC o = t := by simpa using h5
           rw [if_pos e5] at hst
           rw [hst]
           exact aG ⟨rfl, rfl⟩ (fun _ => rfl)
         have e5 : ¬ fC o = t := by simpa using h5
         rw [if_neg e5] at hst
         refine ⟨⟨k + 1, hgo hst⟩, ?_, by simp only; omega⟩
         exact aC [0, 1] zw1 zw0 zw1 zw5 zw3 rfl rfl
     have hn : ¬ ns.length + 1 = ps.length := fun e => by rw [hw1] at h2; have h2' : ¬ (ns.length : Int) = (ps.length : Int) - 1 := (by simpa using h2); omega
     rw [if_neg hn] at hM
     rw [hM]
     exact aG ⟨rfl, rfl⟩ (fun _ => rfl)
   have hk : k = 11 := by have := of_decide_eq_false h; omega
   subst hk
   have hMn : M = none := by
     by_cases he : ns.length + 1 = ps.length
     · exact k3 he
     · rw [hM, if_neg he]
   rw [hMn]
   exact aG ⟨rfl, rfl⟩ (fun _ => rfl)
theorem cP0 {out : Str} {l : List Int} {k : Nat} (h : k < l.length) : hC out (l.drop k) = hC ((out ++ [32]) ++ dF l[k]) (l.drop (k + 1)) := by
 rw [List.drop_eq_getElem_cons h, hC]
theorem uA : ∀ (l : List Int) (out : Str), (hC out l).length ≤ out.length + 21 * l.length
 | [], out => by simp [hC]
 | x :: r, out => by
   have h := uA r ((out ++ [32]) ++ dF x)
   have h2 := gG x
   simp only [hC, List.length_append, List.length_cons, List.length_nil] at h ⊢
   omega
theorem pU (wd : Str) (l : List Int) : (eK wd l).length ≤ wd.length + 21 * l.length + 1 := by
 have h := uA l wd
 unfold eK
 split
 · simp
 · simp only [List.length_append, List.length_cons, List.length_nil]; omega
theorem yY (wd : Str) (i : Sl) (l : List Int) (w : World) (h : At w [slo i aL 1 l]) (hw : wd.length ≤ 1000) (hl : l.length ≤ 1000) (hn : ∀ x ∈ l, wA x) :
   Calls Tryz.prog 167 #[.string (bs wd), i.val l.length] w (Ret w fun v L => v = .string (bs (eK wd l)) ∧ L = []) := by
 refine cN Tryz.func167 rfl aA w _ rfl _ rfl _ h ⟨rfl, rfl, trivial⟩ _ _ (by decide) ?_
 apply CaseB.mk <;> intro g
 · have e : l = [] := List.eq_nil_of_length_eq_zero (by have g' : (l.length : Int) = 0 := z85; omega)
   rw [show eK wd l = [] from if_pos e]
   exact aG ⟨rfl, rfl⟩ (fun _ => rfl)
 have e : ¬ l = [] := fun e => by rw [e] at g; simp at g
 rw [show eK wd l = hC wd l ++ [10] from if_neg e]
 refine LoopW.mk ⟨{ q : Nat × Str // q.1 ≤ l.length ∧ hC wd l = hC q.2 (l.drop q.1) ∧ q.2.length ≤ 1000 + 21 * q.1 },
   fun q => .mk [(1, .v (i.val l.length)), (5, .v (.string (bs q.1.2))), (6, .v (.int .i64 (q.1.1 : Int)))] 0 0 [] [] [slo i aL 1 l],
   fun q => l.length - q.1.1, ⟨(0, wd), Nat.zero_le _, rfl, by simpa using hw⟩, ?_, ?_⟩
 · exact aC [0] zw2 zw0 zw2 zw5 zw4 rfl rfl
 rintro ⟨⟨k, out⟩, i1, i2, i3⟩
 simp only at i1 i2 i3 ⊢
 apply CaseB.mk <;> intro g
 · have hlt : k < l.length := by have := of_decide_eq_true g; omega
   have hw2 := bA k _ hlt (by omega)
   have hd := gG l[k]
   have hnk := hn _ (List.getElem_mem hlt)
   refine bJ rfl rfl rfl ⟨rfl, rfl⟩ (.string (bs (out ++ [32]))) (fun w => aO w) (fun w => bP z51 w) ?_
   refine aF aI aA rfl rfl rfl rfl rfl ⟨rfl, rfl⟩ z31 k rfl z37 (fun ad => ?_)
   refine aB _ aA0 rfl rfl rfl rfl ⟨rfl, rfl⟩ (fun A w hW => (vZ _ w hnk.1 hnk.2)) ?_
   rintro v L ⟨rfl, rfl⟩
   refine bJ rfl rfl rfl ⟨rfl, rfl⟩ (.string (bs ((out ++ [32]) ++ (dF l[k])))) (fun w => aO w) (fun w => bP z51 w) ?_
   refine ⟨⟨(k + 1, (out ++ [32]) ++ dF l[k]), hlt, i2.trans (cP0 hlt), by simp only [List.length_append, List.length_cons, List.length_nil]; omega⟩, ?_, by simp only; omega⟩
   exact aC [0] zw8 zw0 zw8 zw5 zw18 rfl rfl
 have hge : l.length ≤ k := by have := of_decide_eq_false g; omega
 rw [List.drop_eq_nil_of_le hge, hC] at i2
 refine bJ rfl rfl rfl ⟨rfl, rfl⟩ (.string (bs (out ++ [10]))) (fun w => aO w) (fun w => bP z51 w) ?_
 rw [i2]
 exact aG ⟨rfl, rfl⟩ (fun _ => rfl)
theorem yZ (line wd : Str) (w : World) (hb : line.length ≤ 1000) :
   Calls Tryz.prog 154 #[.string (bs line), .string (bs wd)] w (Ret w fun v L => ∃ (z : Sl) (ns : List Int) (b : Bool), v = .tuple #[z.val ns.length, .bool b] ∧ (b = false → rZ line wd = none) ∧ (b = true → rZ line wd = some ns) ∧ L = [own z 3 aL 1 ns]) := by
 have hcl := rU 32 line
 have hpt : ∀ x ∈ fI 32 line, x.length ≤ 1000 := fun x hx => Nat.le_trans (pS hx) hb
 have h0 : ¬ ((fI 32 line).headD [] = wd ∧ 2 ≤ (fI 32 line).length) → rZ line wd = none := fun h => if_neg h
 have h1 : ((fI 32 line).headD [] = wd ∧ 2 ≤ (fI 32 line).length) → rZ line wd = match fK (((fI 32 line).drop 1).take 5) with | none => none | some ns => if ns.length + 1 = (fI 32 line).length then some ns else none := fun h => if_pos h
 generalize rZ line wd = M at h0 h1 ⊢
 refine cN Tryz.func154 rfl aA w _ rfl _ rfl [] trivial trivial _ _ (by decide) ?_
 refine aB _ dH0 rfl rfl rfl rfl ⟨rfl, rfl⟩ (fun A w hW => (dV0 line 32 w (by omega))) ?_
 rintro v L ⟨y, rfl, rfl⟩
 generalize fI 32 line = ps at hcl hpt h0 h1 ⊢
 refine AllSl.mk fun l0 => ?_
 have hp0 : 0 < ps.length := by omega
 have hhd : ps.headD [] = ps[0] := by
   cases ps with
   | nil => simp at hp0
   | cons a r => rfl
 rw [hhd] at h0 h1
 refine aF dW aA rfl rfl rfl rfl rfl ⟨rfl, rfl⟩ (bF 1 rfl) 0 rfl z37 (fun ad => ?_)
 refine bJ rfl rfl rfl ⟨rfl, rfl⟩ (.bool ((ps[0]) != wd)) (fun w => aO w) (fun w => pQ w) ?_
 apply CaseB.mk <;> intro g
 · have e := h0 (fun h => by rw [h.1] at g; simp at g)
   exact bY [0] ⟨l0, [], false, rfl, fun _ => e, fun h => z89, rfl⟩ z118 rfl ⟨rfl, trivial⟩ (fun _ => rfl)
 have e0 : ps[0] = wd := by simpa using g
 refine CaseB.mk (fun g2 => ?_) (fun g2 => ?_)
 · have e := h0 (fun h => by have := of_decide_eq_true g2; omega)
   exact bY [0] ⟨l0, [], false, rfl, fun _ => e, fun h => z89, rfl⟩ z118 rfl ⟨rfl, trivial⟩ (fun _ => rfl)
 have hM := h1 ⟨e0, by have := of_decide_eq_false g2; omega⟩
 clear h0 h1
 refine LoopW.mk ⟨{ q : Nat × Sl × List Int // 1 ≤ q.1 ∧ q.1 ≤ 6 ∧ q.1 ≤ ps.length ∧ fK ((ps.drop 1).take 5) = kC q.2.2 (fK ((ps.drop q.1).take (6 - q.1))) ∧ q.2.2.length + 1 = q.1 },
   fun q => .mk [(6, .v (y.val ps.length)), (7, .v (q.1.2.1.val q.1.2.2.length)), (8, .v (.int .i64 (q.1.1 : Int)))] 0 0 [] [] [own q.1.2.1 3 aL 1 q.1.2.2, own y 9 pZ 1 ps],
   fun q => 6 - q.1.1, ⟨(1, l0, []), Nat.le_refl _, by show 1 ≤ 6; omega, hcl.1, by simp only [kC, List.nil_append]; cases fK ((ps.drop 1).take (6 - 1)) <;> rfl, rfl⟩, ?_, ?_⟩
 · exact aC [0, 1] zw2 zw0 zw2 zw5 zw4 rfl rfl
 rintro ⟨⟨i, z, ns⟩, i1, i2, i3, i4, i5⟩
 simp only at i1 i2 i3 i4 i5 ⊢
 apply CaseB.mk <;> intro g
 refine CaseB.mk (fun g2 => ?_) (fun g2 => ?_)
 · have hlt : i < ps.length := by have := of_decide_eq_true g; omega
   have h6 : i < 6 := by have := of_decide_eq_true g2; omega
   have hw := bA i _ hlt (by omega)
   obtain ⟨m, hm⟩ : ∃ m, 6 - i = m + 1 := ⟨5 - i, by omega⟩
   have hd : (ps.drop i).take (6 - i) = ps[i] :: (ps.drop (i + 1)).take (6 - (i + 1)) := by rw [hm, drop_take hlt, show 6 - (i + 1) = m by omega]
   rw [hd] at i4
   refine aF dW aA rfl rfl rfl rfl rfl ⟨rfl, rfl⟩ (bF 1 rfl) i rfl z37 (fun ad => ?_)
   obtain ⟨pt, hpe⟩ : ∃ pt, pt = ps[i] := ⟨_, rfl⟩
   have hpl : pt.length ≤ 1000 := by rw [hpe]; exact hpt _ (List.getElem_mem hlt)
   rw [← hpe] at i4 ⊢
   refine aB _ kV0 rfl rfl rfl rfl ⟨rfl, rfl⟩ (fun A w hW => (hQ0 pt w (by omega))) ?_
   rintro v L ⟨rfl, rfl⟩
   cases hn : sY pt with
   | none =>
     refine CaseB.mk (fun g3 => ?_) (fun g3 => by simp at g3)
     refine AllSl.mk fun l2 => ?_
     have e : M = none := by rw [hM, i4.trans (tZ hn)]
     exact bY [0] ⟨l2, [], false, rfl, fun _ => e, fun h => z89, rfl⟩ z118 rfl ⟨rfl, trivial⟩ (fun _ => rfl)
   | some n =>
     refine CaseB.mk (fun g3 => by simp at g3) (fun g3 => ?_)
     refine AllSl.mk fun b3 => ?_
     refine bR aI 1 aA (xs := ns) (ys := [n]) rfl rfl rfl rfl rfl rfl rfl rfl rfl (by decide) ⟨rfl, rfl⟩ rfl z31 z37 z37 (fun z3 => ?_)
     refine ⟨⟨(i + 1, z3, ns ++ [n]), show 1 ≤ i + 1 by omega, h6, hlt, i4.trans (tY hn), by simp; omega⟩, ?_, by simp only; omega⟩
     exact aC [0, 2] zw1 zw0 zw1 zw5 zw3 rfl rfl
 have hfin : fK ((ps.drop 1).take 5) = some ns := by
   rw [i4, show 6 - i = 0 by have := of_decide_eq_false g2; omega, List.take_zero]
   simp [fK, kC]
 rotate_left
 have hfin : fK ((ps.drop 1).take 5) = some ns := by
   rw [i4, List.drop_eq_nil_of_le z72, List.take_nil]
   simp [fK, kC]
 rotate_left
 all_goals
   rw [hfin] at hM
   simp only at hM
   have hw1 : IntKind.i64.wrap ((ps.length : Int) - 1) = (ps.length : Int) - 1 := cE (by omega) (by omega)
   by_cases he : ns.length + 1 = ps.length
   · rw [if_pos he] at hM
     exact bY [0] ⟨z, ns, _, rfl, fun h => by rw [hw1] at h; have h' : ¬ (ns.length : Int) = (ps.length : Int) - 1 := z83; omega, fun _ => hM, rfl⟩ z118 rfl ⟨rfl, trivial⟩ (fun _ => rfl)
   · rw [if_neg he] at hM
     exact bY [0] ⟨z, ns, _, rfl, fun _ => hM, fun h => by rw [hw1] at h; have h' : (ns.length : Int) = (ps.length : Int) - 1 := z83; omega, rfl⟩ z118 rfl ⟨rfl, trivial⟩ (fun _ => rfl)
def wB (i : Nat) (s : Str) : Option Op := if i = 0 then eE s else if s.head? = some 32 then eE (s.drop 1) else none
def qA (i : Nat) : List Str → Option (List Op)
 | [] => some []
 | s :: r => match wB i s with
   | none => none
   | some o => match eT0 r with
     | none => none
     | some l => some (o :: l)
theorem mL0 : ∀ l : List Str, opsM l = qA 0 l
 | [] => rfl
 | _ :: _ => rfl
theorem mM0 {i : Nat} (h : 1 ≤ i) : ∀ l : List Str, eT0 l = qA i l
 | [] => rfl
 | s :: r => by simp only [eT0, qA, wB, if_neg (show ¬ i = 0 by omega)] <;> rfl
def mB (ns : List Op) (o : Option (List Op)) : Option (List Op) := match o with | none => none | some l => some (ns ++ l)
theorem sC {ns : List Op} {s : Str} {r : List Str} {o : Op} {i : Nat} (h : wB i s = some o) : mB ns (qA i (s :: r)) = mB (ns ++ [o]) (qA (i + 1) r) := by
 rw [← mM0 (by omega) r, qA, h]
 cases eT0 r with
 | none => rfl
 | some l => simp [mB]
theorem zA {ns : List Op} {s : Str} {r : List Str} {i : Nat} (h : wB i s = none) : mB ns (qA i (s :: r)) = none := by
 rw [qA, h]; rfl
theorem fC0 (line : Str) (w : World) (hb : line.length ≤ 1000) :
   Calls Tryz.prog 155 #[.string (bs line)] w (Ret w fun v L => ∃ (z : Sl) (ns : List Op) (b : Bool), v = .tuple #[z.val ns.length, .bool b] ∧ (b = false → kM line = none) ∧ (b = true → kM line = some ns) ∧ L = [own z 108 cOp 3 ns]) := by
 have hcl := rU 44 (line.drop 7)
 have hdl : (line.drop 7).length ≤ 1000 := by simp; omega
 have hpt : ∀ x ∈ fI 44 (line.drop 7), x.length ≤ 1000 := fun x hx => Nat.le_trans (pS hx) hdl
 have h0 : line = [116, 104, 114, 101, 97, 100] → kM line = some [] := fun h => if_pos h
 have h1 : line ≠ [116, 104, 114, 101, 97, 100] → (line.length < 7 ∨ line.take 7 ≠ [116, 104, 114, 101, 97, 100, 32]) → kM line = none := fun h h2 => by rw [kM, if_neg h, if_pos h2]
 have h2 : line ≠ [116, 104, 114, 101, 97, 100] → ¬ (line.length < 7 ∨ line.take 7 ≠ [116, 104, 114, 101, 97, 100, 32]) → kM line = match qA 0 ((fI 44 (line.drop 7)).take 9) with | none => none | some l => if (fI 44 (line.drop 7)).length ≤ 8 then some l else none := fun h h2 => by rw [kM, if_neg h, if_neg h2, mL0] <;> rfl
 generalize kM line = M at h0 h1 h2 ⊢
 refine bU Tryz.func155 rfl aA w _ rfl _ rfl [] trivial trivial _ (by decide) ?_
 refine AllSl.mk fun l0 => ?_
 refine bJ rfl rfl rfl ⟨rfl, rfl⟩ (.bool (line == [116, 104, 114, 101, 97, 100])) (fun w => aO w) (fun w => uO w) ?_
 apply CaseB.mk <;> intro g
 · have e := h0 z85
   exact bY [0] ⟨l0, [], true, rfl, fun h => z89, fun _ => e, rfl⟩ z118 rfl ⟨rfl, trivial⟩ (fun _ => rfl)
 have n0 : line ≠ [116, 104, 114, 101, 97, 100] := by simpa using g
 refine eA aA rfl rfl rfl rfl rfl rfl ⟨rfl, rfl⟩ ?_
 apply CaseB.mk <;> intro g
 · have e := h1 n0 (.inl (by have := of_decide_eq_true g; omega))
   exact bY [0] ⟨l0, [], false, rfl, fun _ => e, fun h => z89, rfl⟩ z118 rfl ⟨rfl, trivial⟩ (fun _ => rfl)
 have l7 : 7 ≤ line.length := by have := of_decide_eq_false g; omega
 refine kT aA rfl rfl rfl ⟨rfl, rfl⟩ rfl rfl (0) (7) rfl rfl z37 z37 ?_
 have ht7 : (line.drop 0).take (7 - 0) = line.take 7 := rfl
 rw [ht7]
 refine bJ rfl rfl rfl ⟨rfl, rfl⟩ (.bool ((line.take 7) != [116, 104, 114, 101, 97, 100, 32])) (fun w => aO w) (fun w => pQ w) ?_
 refine CaseB.mk (fun g2 => ?_) (fun g2 => ?_)
 · have e := h1 n0 (.inr z82)
   exact bY [0] ⟨l0, [], false, rfl, fun _ => e, fun h => z89, rfl⟩ z118 rfl ⟨rfl, trivial⟩ (fun _ => rfl)
 have hM := h2 n0 (fun h => by
   rcases h with h | h
   · omega
   · exact h z82)
 clear h0 h1 h2
 refine kT aA rfl rfl rfl ⟨rfl, rfl⟩ rfl rfl (7) (line.length) rfl rfl z37 z37 ?_
 have hd7 : (line.drop 7).take (line.length - 7) = line.drop 7 := List.take_of_length_le z74
 rw [hd7]
 refine aB _ dH0 rfl rfl rfl rfl ⟨rfl, rfl⟩ (fun A w hW => (dV0 (line.drop 7) 44 w (by omega))) ?_
 rintro v L ⟨y, rfl, rfl⟩
 generalize fI 44 (line.drop 7) = ps at hcl hpt hM ⊢
 refine LoopW.mk ⟨{ q : Nat × Sl × List Op // q.1 ≤ 9 ∧ q.1 ≤ ps.length ∧ qA 0 (ps.take 9) = mB q.2.2 (qA q.1 ((ps.drop q.1).take (9 - q.1))) ∧ q.2.2.length = q.1 },
   fun q => .mk [(4, .v (q.1.2.1.val q.1.2.2.length)), (5, .v (y.val ps.length)), (6, .v (.int .i64 (q.1.1 : Int)))] 0 0 [] [] [own q.1.2.1 108 cOp 3 q.1.2.2, own y 9 pZ 1 ps],
   fun q => 9 - q.1.1, ⟨(0, l0, []), Nat.zero_le _, Nat.zero_le _, by simp only [mB, List.nil_append, List.drop_zero]; cases qA 0 (ps.take 9) <;> rfl, rfl⟩, ?_, ?_⟩
 · exact aC [1, 0] zw2 zw0 zw2 zw5 zw4 rfl rfl
 rintro ⟨⟨i, z, ns⟩, i1, i2, i3, i4⟩
 simp only at i1 i2 i3 i4 ⊢
 apply CaseB.mk <;> intro g
 refine CaseB.mk (fun g2 => ?_) (fun g2 => ?_)
 · have hlt : i < ps.length := by have := of_decide_eq_true g; omega
   have h8 : i < 9 := by have := of_decide_eq_true g2; omega
   have hw := bA i _ hlt (by omega)
   obtain ⟨m, hm⟩ : ∃ m, 9 - i = m + 1 := ⟨8 - i, by omega⟩
   have hd : (ps.drop i).take (9 - i) = ps[i] :: (ps.drop (i + 1)).take (9 - (i + 1)) := by rw [hm, drop_take hlt, show 9 - (i + 1) = m by omega]
   rw [hd] at i3
   refine aF dW aA rfl rfl rfl rfl rfl ⟨rfl, rfl⟩ (bF 1 rfl) i rfl z37 (fun ad => ?_)
   obtain ⟨pt, hpe⟩ : ∃ pt, pt = ps[i] := ⟨_, rfl⟩
   have hpl : pt.length ≤ 1000 := by rw [hpe]; exact hpt _ (List.getElem_mem hlt)
   rw [← hpe] at i3 ⊢
   have hbad : wB i pt = none → M = none := fun h => by rw [hM, i3.trans (zA h)]
   refine CaseB.mk (fun g3 => ?_) (fun g3 => ?_)
   · have hi0 : ¬ i = 0 := by have := of_decide_eq_true g3; omega
     have hop : wB i pt = if pt.head? = some 32 then eE (pt.drop 1) else none := if_neg hi0
     refine bJ rfl rfl rfl ⟨rfl, rfl⟩ (.bool (pt == [])) (fun w => aO w) (fun w => uO w) ?_
     refine CaseB.mk (fun g4 => ?_) (fun g4 => ?_)
     · have e0 : pt = [] := by simpa using g4
       have e := hbad (by rw [hop, e0]; rfl)
       refine AllSl.mk fun l2 => ?_
       exact bY [0] ⟨l2, [], false, rfl, fun _ => e, fun h => z89, rfl⟩ z118 rfl ⟨rfl, trivial⟩ (fun _ => rfl)
     have hpp : 0 < pt.length := by
       cases pt with
       | nil => simp at g4
       | cons a r => simp
     have hh : pt.head? = some pt[0] := by rw [List.head?_eq_getElem?, List.getElem?_eq_getElem hpp]
     refine gR aA rfl rfl rfl rfl ⟨rfl, rfl⟩ (0) rfl z37 ?_
     refine CaseB.mk (fun g5 => ?_) (fun g5 => ?_)
     · have e32 : ¬ pt[0] = 32 := fun h => by rw [h] at g5; simp at g5
       have e := hbad (by rw [hop, hh, if_neg (fun h => e32 (Option.some.inj h))])
       refine AllSl.mk fun l2 => ?_
       exact bY [0] ⟨l2, [], false, rfl, fun _ => e, fun h => z89, rfl⟩ z118 rfl ⟨rfl, trivial⟩ (fun _ => rfl)
     have e32 : pt[0] = 32 := (xQ _ 32).1 (by simpa using g5)
     rw [hh, e32, if_pos rfl] at hop
     refine CaseB.mk (fun g6 => ?_) (fun g6 => by rw [g3] at g6; cases g6)
     refine kT aA rfl rfl rfl ⟨rfl, rfl⟩ rfl rfl (1) (pt.length) rfl rfl z37 z37 ?_
     have hc1 : (pt.drop 1).take (pt.length - 1) = pt.drop 1 := List.take_of_length_le z74
     rw [hc1]
     have htl : (pt.drop 1).length ≤ 1000 := by simp; omega
     generalize pt.drop 1 = tx at hop htl ⊢
     refine aB _ kW0 rfl rfl rfl rfl ⟨rfl, rfl⟩ (fun A w hW => (xT tx w htl)) ?_
     rintro v L ⟨rfl, rfl⟩
     cases ho : eE tx with
     | none =>
       refine CaseB.mk (fun g7 => ?_) (fun g7 => by simp at g7)
       refine AllSl.mk fun l2 => ?_
       have e := hbad (hop.trans ho)
       exact bY [0] ⟨l2, [], false, rfl, fun _ => e, fun h => z89, rfl⟩ z118 rfl ⟨rfl, trivial⟩ (fun _ => rfl)
     | some o =>
       refine CaseB.mk (fun g7 => by simp at g7) (fun g7 => ?_)
       refine AllSl.mk fun b3 => ?_
       refine bR oX 1 aA (xs := ns) (ys := [o]) rfl rfl rfl rfl rfl rfl rfl rfl rfl (by decide) ⟨rfl, rfl⟩ rfl z31 z37 z37 (fun z3 => ?_)
       refine ⟨⟨(i + 1, z3, ns ++ [o]), h8, hlt, i3.trans (sC (hop.trans ho)), by simp; omega⟩, ?_, by simp only; omega⟩
       exact aC [0, 2] zw1 zw0 zw1 zw5 zw3 rfl rfl
   have hi0 : i = 0 := by have := of_decide_eq_false g3; omega
   have hop : wB i pt = eE pt := if_pos hi0
   refine CaseB.mk (fun g6 => by rw [g3] at g6; cases g6) (fun g6 => ?_)
   have htl := hpl
   refine aB _ kW0 rfl rfl rfl rfl ⟨rfl, rfl⟩ (fun A w hW => (xT pt w htl)) ?_
   rintro v L ⟨rfl, rfl⟩
   cases ho : eE pt with
   | none =>
     refine CaseB.mk (fun g7 => ?_) (fun g7 => by simp at g7)
     refine AllSl.mk fun l2 => ?_
     have e := hbad (hop.trans ho)
     exact bY [0] ⟨l2, [], false, rfl, fun _ => e, fun h => z89, rfl⟩ z118 rfl ⟨rfl, trivial⟩ (fun _ => rfl)
   | some o =>
     refine CaseB.mk (fun g7 => by simp at g7) (fun g7 => ?_)
     refine AllSl.mk fun b3 => ?_
     refine bR oX 1 aA (xs := ns) (ys := [o]) rfl rfl rfl rfl rfl rfl rfl rfl rfl (by decide) ⟨rfl, rfl⟩ rfl z31 z37 z37 (fun z3 => ?_)
     refine ⟨⟨(i + 1, z3, ns ++ [o]), h8, hlt, i3.trans (sC (hop.trans ho)), by simp; omega⟩, ?_, by simp only; omega⟩
     exact aC [0, 2] zw1 zw0 zw1 zw5 zw3 rfl rfl
 have hfin : qA 0 (ps.take 9) = some ns := by
   rw [i3, show 9 - i = 0 by have := of_decide_eq_false g2; omega, List.take_zero]
   simp [qA, mB]
 rotate_left
 have hfin : qA 0 (ps.take 9) = some ns := by
   rw [i3, List.drop_eq_nil_of_le z72, List.take_nil]
   simp [qA, mB]
 rotate_left
 all_goals
   rw [hfin] at hM
   simp only at hM
   by_cases he : ps.length ≤ 8
   · rw [if_pos he] at hM
     exact bY [0] ⟨z, ns, _, rfl, fun h => by have := of_decide_eq_false h; omega, fun _ => hM, rfl⟩ z118 rfl ⟨rfl, trivial⟩ (fun _ => rfl)
   · rw [if_neg he] at hM
     exact bY [0] ⟨z, ns, _, rfl, fun _ => hM, fun h => by have := of_decide_eq_true h; omega, rfl⟩ z118 rfl ⟨rfl, trivial⟩ (fun _ => rfl)
theorem aX0 (p : ProgH) (t c : Int) (k : Nat) (hk : k < p.threads.length) (ht : t = (k : Int)) (w : World) (h : At w [fR (bD p)]) :
   Calls Tryz.prog 157 #[eJ p, .int .i64 t, .int .i64 c] w (Ret w fun v L => v = .int .i64 (if c = ((p.threads[k]).m.length : Int) then 3 else 0) ∧ L = []) := by
 refine mF Tryz.func157 rfl aA w _ rfl _ rfl _ h ⟨rfl, rfl, trivial⟩ _ _ _ (by decide) ?_
 refine aF eR aA rfl rfl rfl rfl rfl ⟨rfl, rfl⟩ (aN 0 rfl (.trans (.R_R (bE p)) (.ofR bK))) k (ht) z37 (fun ad => ?_)
 apply CaseB.mk <;> intro g
 · have q : c = ((p.threads[k]).m.length : Int) := by simpa using g
   exact aG ⟨by rw [if_pos q], rfl⟩ (fun _ => rfl)
 · have q : ¬ c = ((p.threads[k]).m.length : Int) := by simpa using g
   exact aG ⟨by rw [if_neg q], rfl⟩ (fun _ => rfl)
theorem hX0 (n : Int) (h0 : 1 ≤ n) (h1 : n ≤ 9) (w : World) : Calls Tryz.prog 158 #[.int .i64 n] w (Ret w fun v L => ∃ y : Sl, v = .tuple #[rK ⟨n, n, []⟩ y, .bool true] ∧ L = [own y 161 dL 2 ([] : List Waiter)]) := by
 refine bU Tryz.func158 rfl aA w _ rfl _ rfl [] trivial trivial _ (by decide) ?_
 refine CaseB.mk (fun g => by simp at g; omega) (fun g => ?_)
 refine CaseB.mk (fun g => by simp at g; omega) (fun g => ?_)
 refine AllSl.mk fun y => ?_
 exact bY [0] ⟨y, rfl, rfl⟩ z118 rfl ⟨rfl, trivial⟩ (fun _ => rfl)
theorem zB (n : Int) (h0 : 1 ≤ n) (h1 : n ≤ 6) (w : World) : Calls Tryz.prog 159 #[.int .i64 n] w (Ret w fun v L => ∃ y : Sl, v = .tuple #[lD ⟨n, 0, []⟩ y, .bool true] ∧ L = [own y 3 aL 1 ([] : List Int)]) := by
 refine bU Tryz.func159 rfl aA w _ rfl _ rfl [] trivial trivial _ (by decide) ?_
 refine CaseB.mk (fun g => by simp at g; omega) (fun g => ?_)
 refine CaseB.mk (fun g => by simp at g; omega) (fun g => ?_)
 refine AllSl.mk fun y => ?_
 exact bY [0] ⟨y, rfl, rfl⟩ z118 rfl ⟨rfl, trivial⟩ (fun _ => rfl)
theorem fD0 (n : Int) (h0 : 0 ≤ n) (h1 : n ≤ 4) (w : World) : Calls Tryz.prog 160 #[.int .i64 n] w (Ret w fun v L => ∃ y z u : Sl, v = .tuple #[kZ ⟨n, [], [], [], false⟩ y z u, .bool true] ∧ L = [own y 3 aL 1 ([] : List Int), own z 164 jY 2 ([] : List Letter), own u 3 aL 1 ([] : List Int)]) := by
 refine bU Tryz.func160 rfl aA w _ rfl _ rfl [] trivial trivial _ (by decide) ?_
 refine CaseB.mk (fun g => by simp at g; omega) (fun g => ?_)
 refine CaseB.mk (fun g => by simp at g; omega) (fun g => ?_)
 refine AllSl.mk fun y => ?_
 refine AllSl.mk fun z => ?_
 refine AllSl.mk fun u => ?_
 exact bY [2, 1, 0] ⟨y, z, u, rfl, rfl⟩ ⟨.inl ⟨_, rfl, rfl⟩, .inl ⟨_, rfl, rfl⟩, .inl ⟨_, rfl, rfl⟩, trivial⟩ rfl ⟨rfl, rfl, rfl, trivial⟩ (fun _ => rfl)
theorem zC (p : ProgH) (w : World) (h : At w [fR (bD p)]) (hs : p.sems.length ≤ 1048576 ∧ p.groups.length ≤ 1048576 ∧ p.barriers.length ≤ 1048576 ∧ p.rooms.length ≤ 1048576) :
   Calls Tryz.prog 140 #[eJ p] w (Ret w (Started p.pure)) := by
 refine bU Tryz.func140 rfl aA w _ rfl _ rfl _ h ⟨rfl, rfl, trivial⟩ _ (by decide) ?_
 refine aB _ jH0 rfl rfl rfl rfl ⟨rfl, rfl⟩ (fun A w hW => kO p w ⟨hW.get 0 rfl (.refl _), trivial⟩ hs) ?_
 rintro v L ⟨b, rfl, hb, rfl⟩
 apply CaseB.mk <;> intro g
 · have hn : ¬ ProgOk p.pure := fun e => by rw [hb.2 e] at g; cases g
   refine aU (.joinO [90] (Gs := [_]) ⟨.inr ⟨Nat.le_of_ble_eq_true rfl, rS⟩, trivial⟩ rfl (G := aJ StateH.zero) (.of_eq (by simp))) ?_
   exact bY [0] ⟨StateH.zero, false, rfl, tno hn, fun e => (by cases e), fun _ => rfl, rfl⟩ z118 rfl ⟨rfl, trivial⟩ (fun _ => rfl)
 have ok := hb.1 z85
 have n4 : p.threads.length ≤ 4 := by have := ok.n4; simpa [ProgH.pure] using this
 have m0 : p.sems.length ≤ 3 := ok.sems.1
 have m1 : p.groups.length ≤ 3 := ok.groups.1
 have m2 : p.barriers.length ≤ 3 := ok.barriers.1
 have m3 : p.rooms.length ≤ 3 := ok.rooms.1
 obtain ⟨LP, hLP⟩ : ∃ l, l = p.threads.map (fun _ => (0 : Int)) := ⟨_, rfl⟩
 obtain ⟨LS, hLS⟩ : ∃ l, l = p.threads.map (fun x => rest x.m) := ⟨_, rfl⟩
 have lP : LP.length = p.threads.length := by rw [hLP]; simp
 have lS : LS.length = p.threads.length := by rw [hLS]; simp
 refine LoopW.mk ⟨{ q : Nat × Sl × Sl // q.1 ≤ p.threads.length },
   fun q => .mk [(1, .p 0 0), (2, .p 1 0), (4, .p 2 0), (5, .v (.int .i64 (q.1.1 : Int)))] 3 0 [(0, 38, 5), (1, 46, 9), (2, 46, 9)]
     [((0, 0), .v (p.h0.val p.sems.length)), ((0, 1), .v (p.h1.val p.groups.length)), ((0, 2), .v (p.h2.val p.barriers.length)), ((0, 3), .v (p.h3.val p.rooms.length)), ((0, 4), .v (p.h4.val p.threads.length)), ((2, 0), .v (q.1.2.1.val (LP.take q.1.1).length)), ((2, 1), .v (q.1.2.2.val (LS.take q.1.1).length)), ((2, 2), .v (.slice none 0 0)), ((2, 3), .v (.slice none 0 0)), ((2, 4), .v (.slice none 0 0)), ((2, 5), .v (.slice none 0 0)), ((2, 6), .v (.slice none 0 0)), ((2, 7), .v (.slice none 0 0)), ((2, 8), .v (.int .i64 0))]
     [own q.1.2.1 3 aL 1 (LP.take q.1.1), own q.1.2.2 3 aL 1 (LS.take q.1.1), fR (bD p)],
   fun q => p.threads.length - q.1.1, ⟨(0, ⟨none, 0⟩, ⟨none, 0⟩), Nat.zero_le _⟩, ?_, ?_⟩
 · exact aC [99, 98, 0] zw2 zw0 zw2 zw5 zw4 rfl rfl
 rintro ⟨⟨k, a, s⟩, hk⟩
 simp only at hk
 apply CaseB.mk <;> intro g
 · have hlt : k < p.threads.length := by simpa using g
   have eP : LP.take k ++ [0] = LP.take (k + 1) := by rw [hLP]; exact bL hlt rfl rfl
   have eS : ∀ x, x = rest (p.threads[k]).m → LS.take k ++ [x] = LS.take (k + 1) := fun x hx => by rw [hLS]; exact bL hlt rfl hx
   have hw := bA k _ hlt (by omega)
   refine AllSl.mk fun u => ?_
   refine bR aI 1 aA (ys := [0]) rfl rfl rfl rfl rfl rfl rfl rfl rfl (by decide) ⟨rfl, rfl⟩ rfl z31 z37 z37 (fun a2 => ?_)
   rw [eP]
   have hr : (if (0 : Int) = ((p.threads[k]).m.length : Int) then (3 : Int) else 0) = rest (p.threads[k]).m := by
     simp only [rest]
     by_cases h0 : (p.threads[k]).m.length = 0
     · simp [h0]
     · rw [if_neg h0, if_neg (by omega)]
   refine aH aA z88 z88 z88 200 [((0, 0), .v (p.h0.val p.sems.length)), ((0, 1), .v (p.h1.val p.groups.length)), ((0, 2), .v (p.h2.val p.barriers.length)), ((0, 3), .v (p.h3.val p.rooms.length)), ((0, 4), .v (p.h4.val p.threads.length))] [3] [_] z94 z105 ⟨rfl, trivial⟩ rfl ?_
   refine BothW.mk ?_ ?_
   all_goals
     refine bV _ kU0 rfl rfl rfl rfl ⟨rfl, rfl⟩ (fun A w hW => aX0 p _ 0 k hlt rfl w ⟨hW.get 3 rfl (.refl _), trivial⟩) ?_
     rintro v L ⟨rfl, rfl⟩
     rw [hr]
   rotate_left
   · refine BothW.mk ?_ ?_
     all_goals
       refine AllSl.mk fun u2 => ?_
       refine dB (ti := aZ tab) aI 3 aA (ys := [rest (p.threads[k]).m]) rfl rfl rfl rfl rfl rfl rfl rfl rfl (by decide) ⟨rfl, rfl⟩ rfl z31 z37 z37 z86 (fun s2 => ?_)
       rw [eS _ rfl]
       refine ⟨⟨(k + 1, a2, s2), by omega⟩, ?_, by simp only; omega⟩
       exact aC [2, 0, 4] zw1 zw0 zw1 zw5 zw3 rfl rfl
   refine AllSl.mk fun u2 => ?_
   refine dB (ti := aZ tab) aI 3 aA (ys := [rest (p.threads[k]).m]) rfl rfl rfl rfl rfl rfl rfl rfl rfl (by decide) ⟨rfl, rfl⟩ rfl z31 z37 z37 z86 (fun s2 => ?_)
   rw [eS _ rfl]
   refine ⟨⟨(k + 1, a2, s2), by omega⟩, ?_, by simp only; omega⟩
   exact aC [2, 0, 4] zw1 zw0 zw1 zw5 zw3 rfl rfl
 have hge : p.threads.length ≤ k := by simpa using g
 have eP : LP.take k = LP := List.take_of_length_le (by omega)
 have eS : LS.take k = LS := List.take_of_length_le (by omega)
 refine LoopW.mk ⟨{ q : Nat × Sl × List SemH // q.1 ≤ p.sems.length ∧ q.2.2.map (·.m) = (p.sems.map fun n => (⟨n, n, []⟩ : Sem)).take q.1 },
   fun q => .mk [(1, .p 0 0), (2, .p 1 0), (4, .p 2 0), (6, .v (.int .i64 (q.1.1 : Int)))] 3 0 [(0, 38, 5), (1, 46, 9), (2, 46, 9)]
     [((0, 0), .v (p.h0.val p.sems.length)), ((0, 1), .v (p.h1.val p.groups.length)), ((0, 2), .v (p.h2.val p.barriers.length)), ((0, 3), .v (p.h3.val p.rooms.length)), ((0, 4), .v (p.h4.val p.threads.length)), ((2, 0), .v (a.val LP.length)), ((2, 1), .v (s.val LS.length)), ((2, 2), .v (q.1.2.1.val q.1.2.2.length)), ((2, 3), .v (.slice none 0 0)), ((2, 4), .v (.slice none 0 0)), ((2, 5), .v (.slice none 0 0)), ((2, 6), .v (.slice none 0 0)), ((2, 7), .v (.slice none 0 0)), ((2, 8), .v (.int .i64 0))]
     [own q.1.2.1 85 iU 3 q.1.2.2, fO (q.1.2.2.flatMap qM), own a 3 aL 1 LP, own s 3 aL 1 LS, fR (bD p)],
   fun q => p.sems.length - q.1.1, ⟨(0, ⟨none, 0⟩, []), Nat.zero_le _, by simp⟩, ?_, ?_⟩
 · refine aX (.joinO [] (Gs := []) trivial rfl (.refl _)) ?_
   refine aC [99, 0, 1, 2, 3] ?_ ?_ ?_ ?_ ?_ rfl rfl
   · exact zw21
   · exact zw0
   · exact zw21
   · exact zw5
   · repeat (first | exact trivial | refine ⟨.inl ⟨_, rfl, (by first | rfl | ((first | (rw [eP]; done) | (rw [eS]; done))))⟩, ?_⟩ | refine ⟨.inr z111, ?_⟩)
 rintro ⟨⟨k0, c0, l0⟩, hk, hl0⟩
 simp only at hk hl0
 have ln0 : l0.length = k0 := by have := congrArg List.length hl0; simp at this; omega
 apply CaseB.mk <;> intro g
 · have hlt : k0 < p.sems.length := by simpa using g
   have hw := bA k0 _ hlt (by omega)
   have hv := ok.sems.2 _ (List.getElem_mem hlt)
   refine aF aI aA rfl rfl rfl rfl rfl ⟨rfl, rfl⟩ (aN 4 rfl (.ofR (fA p))) k0 rfl z37 (fun ad => ?_)
   refine aB _ cl158 rfl rfl rfl rfl ⟨rfl, rfl⟩ (fun A w hW => hX0 _ hv.1 hv.2 w) ?_
   rintro v L ⟨y, rfl, rfl⟩
   refine AllSl.mk fun r => ?_
   generalize hx : (⟨⟨p.sems[k0], p.sems[k0], []⟩, y⟩ : SemH) = x
   have hxm : x.m = ⟨p.sems[k0], p.sems[k0], []⟩ := by rw [← hx]
   refine bR dV 2 aA (ys := [x]) rfl rfl rfl rfl rfl (by rw [← hx]; rfl) rfl rfl rfl (by decide) ⟨rfl, rfl⟩ rfl (by rw [← hx]; exact bF 0 rfl) z65 z57 (fun c' => ?_)
   refine ⟨⟨(k0 + 1, c', l0 ++ [x]), by omega, by rw [List.map_append]; exact bL hlt hl0 hxm⟩, ?_, by simp only; omega⟩
   refine aX (.joinO [2, 3] (Gs := [[_], _]) z108 rfl (G := (l0 ++ [x]).flatMap qM) (by subst hx; rw [List.flatMap_append]; exact (List.Perm.of_eq (by simp [qM])).trans List.perm_append_comm)) ?_
   exact aC [1, 0, 3, 4, 5] zw1 zw0 zw1 zw5 zw3 rfl rfl
 have hge0 : p.sems.length ≤ k0 := by simpa using g
 have m0' : l0.map (·.m) = p.sems.map fun n => (⟨n, n, []⟩ : Sem) := by rw [hl0, List.take_of_length_le (by simpa using hge0)]
 refine LoopW.mk ⟨{ q : Nat × Sl // q.1 ≤ 3 },
   fun q => .mk [(1, .p 0 0), (2, .p 1 0), (4, .p 2 0), (9, .v (.int .i64 (q.1.1 : Int)))] 3 0 [(0, 38, 5), (1, 46, 9), (2, 46, 9)]
     [((0, 0), .v (p.h0.val p.sems.length)), ((0, 1), .v (p.h1.val p.groups.length)), ((0, 2), .v (p.h2.val p.barriers.length)), ((0, 3), .v (p.h3.val p.rooms.length)), ((0, 4), .v (p.h4.val p.threads.length)), ((2, 0), .v (a.val LP.length)), ((2, 1), .v (s.val LS.length)), ((2, 2), .v (c0.val l0.length)), ((2, 3), .v (q.1.2.val (List.replicate q.1.1 dR).length)), ((2, 4), .v (.slice none 0 0)), ((2, 5), .v (.slice none 0 0)), ((2, 6), .v (.slice none 0 0)), ((2, 7), .v (.slice none 0 0)), ((2, 8), .v (.int .i64 0))]
     [own q.1.2 98 fP 4 (List.replicate q.1.1 dR), own c0 85 iU 3 l0, fO (l0.flatMap qM), own a 3 aL 1 LP, own s 3 aL 1 LS, fR (bD p)],
   fun q => 3 - q.1.1, ⟨(0, ⟨none, 0⟩), Nat.zero_le _⟩, ?_, ?_⟩
 · exact aC [99, 0, 1, 2, 3, 4] zw2 zw0 zw2 zw5 zw4 rfl rfl
 rintro ⟨⟨k1, c1⟩, hk⟩
 simp only at hk
 apply CaseB.mk <;> intro g
 · have hlt : k1 < 3 := by have g' := of_decide_eq_true g; simp only at g'; omega
   have hw := bA k1 3 hlt (by omega)
   refine AllSl.mk fun u => ?_
   refine bR dM 1 aA (ys := [dR]) rfl rfl rfl rfl rfl rfl rfl rfl rfl (by decide) ⟨rfl, rfl⟩ rfl z31 z37 z37 (fun c' => ?_)
   rw [← List.replicate_succ']
   refine ⟨⟨(k1 + 1, c'), by omega⟩, ?_, by simp only; omega⟩
   exact aC [0, 2, 3, 4, 5, 6] zw1 zw0 zw1 zw5 zw3 rfl rfl
 have hge1 : k1 = 3 := by have g' := of_decide_eq_false g; simp only at g'; omega
 have e1 : List.replicate k1 dR = [dR, dR, dR] := by rw [hge1]; rfl
 obtain ⟨L2, hL2⟩ : ∃ l, l = p.groups.map (fun n => (⟨⟨n, []⟩, ⟨none, 0⟩⟩ : GroupH)) := ⟨_, rfl⟩
 have lenL2 : L2.length = p.groups.length := by rw [hL2]; simp
 refine LoopW.mk ⟨{ q : Nat × Sl // q.1 ≤ p.groups.length },
   fun q => .mk [(1, .p 0 0), (2, .p 1 0), (4, .p 2 0), (10, .v (.int .i64 (q.1.1 : Int)))] 3 0 [(0, 38, 5), (1, 46, 9), (2, 46, 9)]
     [((0, 0), .v (p.h0.val p.sems.length)), ((0, 1), .v (p.h1.val p.groups.length)), ((0, 2), .v (p.h2.val p.barriers.length)), ((0, 3), .v (p.h3.val p.rooms.length)), ((0, 4), .v (p.h4.val p.threads.length)), ((2, 0), .v (a.val LP.length)), ((2, 1), .v (s.val LS.length)), ((2, 2), .v (c0.val l0.length)), ((2, 3), .v (c1.val [dR, dR, dR].length)), ((2, 4), .v (q.1.2.val (L2.take q.1.1).length)), ((2, 5), .v (.slice none 0 0)), ((2, 6), .v (.slice none 0 0)), ((2, 7), .v (.slice none 0 0)), ((2, 8), .v (.int .i64 0))]
     [own q.1.2 88 eQ 2 (L2.take q.1.1), own c1 98 fP 4 [dR, dR, dR], own c0 85 iU 3 l0, fO (l0.flatMap qM), own a 3 aL 1 LP, own s 3 aL 1 LS, fR (bD p)],
   fun q => p.groups.length - q.1.1, ⟨(0, ⟨none, 0⟩), Nat.zero_le _⟩, ?_, ?_⟩
 · refine aC [99, 0, 1, 2, 3, 4, 5] ?_ ?_ ?_ ?_ ?_ rfl rfl
   · exact zw23
   · exact zw0
   · exact zw23
   · exact zw5
   · repeat (first | exact trivial | refine ⟨.inl ⟨_, rfl, (by first | rfl | ((first | (rw [e1]; done))))⟩, ?_⟩ | refine ⟨.inr z111, ?_⟩)
 rintro ⟨⟨k2, c2⟩, hk⟩
 simp only at hk
 apply CaseB.mk <;> intro g
 · have hlt : k2 < p.groups.length := by simpa using g
   have e : ∀ x, x = (⟨⟨p.groups[k2], []⟩, ⟨none, 0⟩⟩ : GroupH) → L2.take k2 ++ [x] = L2.take (k2 + 1) := fun x hx => by rw [hL2]; exact bL hlt rfl hx
   have hw := bA k2 _ hlt (by omega)
   refine aH aA z88 z88 z88 200 [((0, 0), .v (p.h0.val p.sems.length)), ((0, 1), .v (p.h1.val p.groups.length)), ((0, 2), .v (p.h2.val p.barriers.length)), ((0, 3), .v (p.h3.val p.rooms.length)), ((0, 4), .v (p.h4.val p.threads.length))] [6] [_] z94 z105 ⟨rfl, trivial⟩ rfl ?_
   refine bM (ti := aZ tab) aI aA rfl rfl rfl rfl rfl ⟨rfl, rfl⟩ (aN 0 rfl (.ofR (kL p))) k2 rfl z37 (fun ad => ?_)
   refine BothW.mk ?_ ?_
   all_goals
     refine AllSl.mk fun u => ?_
     refine dB (ti := aZ tab) cP 1 aA (ys := [⟨⟨p.groups[k2], []⟩, ⟨none, 0⟩⟩]) rfl rfl rfl rfl rfl rfl rfl rfl rfl (by decide) ⟨rfl, rfl⟩ rfl z31 z37 z37 z86 (fun c' => ?_)
     rw [e _ rfl]
     refine ⟨⟨(k2 + 1, c'), by omega⟩, ?_, by simp only; omega⟩
     exact aC [0, 2, 3, 4, 5, 6, 7] zw1 zw0 zw1 zw5 zw3 rfl rfl
 have hge2 : p.groups.length ≤ k2 := by simpa using g
 have e2 : L2.take k2 = L2 := List.take_of_length_le (by omega)
 refine LoopW.mk ⟨{ q : Nat × Sl × List BarrierH // q.1 ≤ p.barriers.length ∧ q.2.2.map (·.m) = (p.barriers.map fun n => (⟨n, 0, []⟩ : Barrier)).take q.1 },
   fun q => .mk [(1, .p 0 0), (2, .p 1 0), (4, .p 2 0), (11, .v (.int .i64 (q.1.1 : Int)))] 3 0 [(0, 38, 5), (1, 46, 9), (2, 46, 9)]
     [((0, 0), .v (p.h0.val p.sems.length)), ((0, 1), .v (p.h1.val p.groups.length)), ((0, 2), .v (p.h2.val p.barriers.length)), ((0, 3), .v (p.h3.val p.rooms.length)), ((0, 4), .v (p.h4.val p.threads.length)), ((2, 0), .v (a.val LP.length)), ((2, 1), .v (s.val LS.length)), ((2, 2), .v (c0.val l0.length)), ((2, 3), .v (c1.val [dR, dR, dR].length)), ((2, 4), .v (c2.val L2.length)), ((2, 5), .v (q.1.2.1.val q.1.2.2.length)), ((2, 6), .v (.slice none 0 0)), ((2, 7), .v (.slice none 0 0)), ((2, 8), .v (.int .i64 0))]
     [own q.1.2.1 91 dD 3 q.1.2.2, fO (q.1.2.2.flatMap fF), own c2 88 eQ 2 L2, own c1 98 fP 4 [dR, dR, dR], own c0 85 iU 3 l0, fO (l0.flatMap qM), own a 3 aL 1 LP, own s 3 aL 1 LS, fR (bD p)],
   fun q => p.barriers.length - q.1.1, ⟨(0, ⟨none, 0⟩, []), Nat.zero_le _, by simp⟩, ?_, ?_⟩
 · refine aX (.joinO [] (Gs := []) trivial rfl (.refl _)) ?_
   refine aC [99, 0, 1, 2, 3, 4, 5, 6, 7] ?_ ?_ ?_ ?_ ?_ rfl rfl
   · exact zw24
   · exact zw0
   · exact zw24
   · exact zw5
   · repeat (first | exact trivial | refine ⟨.inl ⟨_, rfl, (by first | rfl | ((first | (rw [e2]; done))))⟩, ?_⟩ | refine ⟨.inr z111, ?_⟩)
 rintro ⟨⟨k3, c3, l3⟩, hk, hl3⟩
 simp only at hk hl3
 have ln3 : l3.length = k3 := by have := congrArg List.length hl3; simp at this; omega
 apply CaseB.mk <;> intro g
 · have hlt : k3 < p.barriers.length := by simpa using g
   have hw := bA k3 _ hlt (by omega)
   have hv := ok.barriers.2 _ (List.getElem_mem hlt)
   refine aF aI aA rfl rfl rfl rfl rfl ⟨rfl, rfl⟩ (aN 8 rfl (.ofR (fG p))) k3 rfl z37 (fun ad => ?_)
   refine aB _ cl159 rfl rfl rfl rfl ⟨rfl, rfl⟩ (fun A w hW => zB _ hv.1 hv.2 w) ?_
   rintro v L ⟨y, rfl, rfl⟩
   refine AllSl.mk fun r => ?_
   generalize hx : (⟨⟨p.barriers[k3], 0, []⟩, y⟩ : BarrierH) = x
   have hxm : x.m = ⟨p.barriers[k3], 0, []⟩ := by rw [← hx]
   refine bR cH 2 aA (ys := [x]) rfl rfl rfl rfl rfl (by rw [← hx]; rfl) rfl rfl rfl (by decide) ⟨rfl, rfl⟩ rfl (by rw [← hx]; exact bF 0 rfl) z65 z57 (fun c' => ?_)
   refine ⟨⟨(k3 + 1, c', l3 ++ [x]), by omega, by rw [List.map_append]; exact bL hlt hl3 hxm⟩, ?_, by simp only; omega⟩
   refine aX (.joinO [2, 3] (Gs := [[_], _]) z108 rfl (G := (l3 ++ [x]).flatMap fF) (by subst hx; rw [List.flatMap_append]; exact (List.Perm.of_eq (by simp [fF])).trans List.perm_append_comm)) ?_
   exact aC [1, 0, 3, 4, 5, 6, 7, 8, 9] zw1 zw0 zw1 zw5 zw3 rfl rfl
 have hge3 : p.barriers.length ≤ k3 := by simpa using g
 have m3' : l3.map (·.m) = p.barriers.map fun n => (⟨n, 0, []⟩ : Barrier) := by rw [hl3, List.take_of_length_le (by simpa using hge3)]
 refine LoopW.mk ⟨{ q : Nat × Sl × List ChanH // q.1 ≤ p.rooms.length ∧ q.2.2.map (·.m) = (p.rooms.map fun n => (⟨n, [], [], [], false⟩ : Chan)).take q.1 },
   fun q => .mk [(1, .p 0 0), (2, .p 1 0), (4, .p 2 0), (14, .v (.int .i64 (q.1.1 : Int)))] 3 0 [(0, 38, 5), (1, 46, 9), (2, 46, 9)]
     [((0, 0), .v (p.h0.val p.sems.length)), ((0, 1), .v (p.h1.val p.groups.length)), ((0, 2), .v (p.h2.val p.barriers.length)), ((0, 3), .v (p.h3.val p.rooms.length)), ((0, 4), .v (p.h4.val p.threads.length)), ((2, 0), .v (a.val LP.length)), ((2, 1), .v (s.val LS.length)), ((2, 2), .v (c0.val l0.length)), ((2, 3), .v (c1.val [dR, dR, dR].length)), ((2, 4), .v (c2.val L2.length)), ((2, 5), .v (c3.val l3.length)), ((2, 6), .v (q.1.2.1.val q.1.2.2.length)), ((2, 7), .v (.slice none 0 0)), ((2, 8), .v (.int .i64 0))]
     [own q.1.2.1 95 gW 5 q.1.2.2, fO (q.1.2.2.flatMap jO), own c3 91 dD 3 l3, fO (l3.flatMap fF), own c2 88 eQ 2 L2, own c1 98 fP 4 [dR, dR, dR], own c0 85 iU 3 l0, fO (l0.flatMap qM), own a 3 aL 1 LP, own s 3 aL 1 LS, fR (bD p)],
   fun q => p.rooms.length - q.1.1, ⟨(0, ⟨none, 0⟩, []), Nat.zero_le _, by simp⟩, ?_, ?_⟩
 · refine aX (.joinO [] (Gs := []) trivial rfl (.refl _)) ?_
   exact aC [99, 0, 1, 2, 3, 4, 5, 6, 7, 8, 9] zw2 zw0 zw2 zw5 zw4 rfl rfl
 rintro ⟨⟨k4, c4, l4⟩, hk, hl4⟩
 simp only at hk hl4
 have ln4 : l4.length = k4 := by have := congrArg List.length hl4; simp at this; omega
 apply CaseB.mk <;> intro g
 · have hlt : k4 < p.rooms.length := by simpa using g
   have hw := bA k4 _ hlt (by omega)
   have hv := ok.rooms.2 _ (List.getElem_mem hlt)
   refine aF aI aA rfl rfl rfl rfl rfl ⟨rfl, rfl⟩ (aN 10 rfl (.ofR (iF p))) k4 rfl z37 (fun ad => ?_)
   refine aB _ cl160 rfl rfl rfl rfl ⟨rfl, rfl⟩ (fun A w hW => fD0 _ hv.1 hv.2 w) ?_
   rintro v L ⟨y, z, u, rfl, rfl⟩
   refine AllSl.mk fun r => ?_
   generalize hx : (⟨⟨p.rooms[k4], [], [], [], false⟩, y, z, u⟩ : ChanH) = x
   have hxm : x.m = ⟨p.rooms[k4], [], [], [], false⟩ := by rw [← hx]
   refine bR cX 4 aA (ys := [x]) rfl rfl rfl rfl rfl (by rw [← hx]; rfl) rfl rfl rfl (by decide) ⟨rfl, rfl⟩ rfl (by rw [← hx]; exact bF 0 rfl) z65 z57 (fun c' => ?_)
   refine ⟨⟨(k4 + 1, c', l4 ++ [x]), by omega, by rw [List.map_append]; exact bL hlt hl4 hxm⟩, ?_, by simp only; omega⟩
   refine aX (.joinO [2, 3, 4, 5] (Gs := [[_], [_], [_], _]) z96 rfl (G := (l4 ++ [x]).flatMap jO) (by subst hx; rw [List.flatMap_append]; exact (List.Perm.of_eq (by simp [jO])).trans List.perm_append_comm)) ?_
   exact aC [1, 0, 3, 4, 5, 6, 7, 8, 9, 10, 11] zw1 zw0 zw1 zw5 zw3 rfl rfl
 have hge4 : p.rooms.length ≤ k4 := by simpa using g
 have m4' : l4.map (·.m) = p.rooms.map fun n => (⟨n, [], [], [], false⟩ : Chan) := by rw [hl4, List.take_of_length_le (by simpa using hge4)]
 generalize hy : (⟨LP, LS, l0, [dR, dR, dR], L2, l3, l4, [], 0, a, s, c0, c1, c2, c3, c4, ⟨none, 0⟩⟩ : StateH) = Y
 have nil1 : ∀ g ∈ L2.flatMap lE, eF g := lH0 fun x hx g hg => by
   rw [hL2] at hx; obtain ⟨n, _, rfl⟩ := List.mem_map.1 hx; simp [lE] at hg; subst hg; exact ⟨rfl, rfl, rfl, rfl⟩
 have nI : ∀ g ∈ [dR, dR, dR].flatMap qB, eF g := lH0 fun x hx g hg => by
   simp at hx; subst hx; simp [qB, dR] at hg; subst hg; exact ⟨rfl, rfl, rfl, rfl⟩
 have nil5 : ∀ g ∈ [own ⟨none, 0⟩ 3 aL 1 ([] : List Int)], eF g := fun g hg => by
   simp at hg; subst hg; exact ⟨rfl, rfl, rfl, rfl⟩
 refine aU (.joinO [8, 9, 6, 7, 5, 90, 4, 91, 2, 3, 0, 1, 92] (Gs := [[_], [_], [_], _, [_], _, [_], _, [_], _, [_], _, _])
   ⟨.inl ⟨_, rfl, .own⟩, .inl ⟨_, rfl, .own⟩, .inl ⟨_, rfl, .own⟩, .inl ⟨_, rfl, .o⟩, .inl ⟨_, rfl, .own⟩, .inr ⟨Nat.le_of_ble_eq_true rfl, nI⟩, .inl ⟨_, rfl, .own⟩, .inr ⟨Nat.le_of_ble_eq_true rfl, nil1⟩, .inl ⟨_, rfl, .own⟩, .inl ⟨_, rfl, .o⟩, .inl ⟨_, rfl, .own⟩, .inl ⟨_, rfl, .o⟩, .inr ⟨Nat.le_of_ble_eq_true rfl, nil5⟩, trivial⟩ rfl (G := aJ Y) (.of_eq (by rw [← hy]; simp [aJ, oW, mK, kK, iD, nN, jN]))) ?_
 have hYp : Y.pure = start p.pure := by
   rw [← hy]
   simp only [StateH.pure, start, ProgH.pure, hLP, hLS, hL2, m0', m3', m4']
   simp [dR]
 exact bY [0] ⟨Y, true, by rw [← hy], vR ok, fun _ => hYp, fun e => (by cases e), rfl⟩ z118 rfl ⟨rfl, trivial⟩ (fun _ => rfl)
theorem kQ {xs : List Int} {lo hi : Int} (h : gE xs lo hi) : xs.length ≤ 1048576 := Nat.le_trans h.1 (by decide)
theorem uB {p : Prog} (ok : ProgOk p) : (start p).small20 := by
 have h1 := kQ ok.sems
 have h2 := kQ ok.groups
 have h3 := kQ ok.barriers
 have h4 := kQ ok.rooms
 have h5 := ok.n4
 refine ⟨by simp [start]; omega, by simp [start]; omega, ⟨by simp [start]; omega, ?_⟩, ⟨by simp [start], ?_⟩, ⟨by simp [start]; omega, ?_⟩, ⟨by simp [start]; omega, ?_⟩, ⟨by simp [start]; omega, ?_⟩, by simp [start]⟩
 · intro x hx; obtain ⟨n, _, rfl⟩ := List.mem_map.1 hx; simp [Sem.small20]
 · intro x hx; simp [start] at hx; subst hx; simp [Once.small20]
 · intro x hx; obtain ⟨n, _, rfl⟩ := List.mem_map.1 hx; simp [Group.small20]
 · intro x hx; obtain ⟨n, _, rfl⟩ := List.mem_map.1 hx; simp [Barrier.small20]
 · intro x hx; obtain ⟨n, _, rfl⟩ := List.mem_map.1 hx; simp [Chan.small20]
theorem zD : State.zero.small20 := by
 refine ⟨by simp [State.zero], by simp [State.zero], ⟨by simp [State.zero], ?_⟩, ⟨by simp [State.zero], ?_⟩, ⟨by simp [State.zero], ?_⟩, ⟨by simp [State.zero], ?_⟩, ⟨by simp [State.zero], ?_⟩, by simp [State.zero]⟩
 all_goals
   intro x hx
   simp [State.zero] at hx
theorem Started.one (p : Prog) : ∃ (S : State) (c : Bool), S.small20 ∧ ∀ (y : StateH) (b : Bool), (b = true ↔ ProgOk p) → (b = true → y.pure = start p) → (b = false → y.pure = State.zero) → y.pure = S ∧ b = c := by
 by_cases ok : ProgOk p
 · refine ⟨start p, true, uB ok, fun y b h1 h2 _ => ?_⟩
   have := h1.2 ok
   exact ⟨h2 this, this⟩
 · refine ⟨State.zero, false, zD, fun y b h1 _ h3 => ?_⟩
   cases b with
   | true => exact (ok (h1.1 rfl)).elim
   | false => exact ⟨h3 rfl, rfl⟩
theorem cQ0 {a : ProgH} (h : a.pure.small20) : a.sems.length ≤ 1048576 ∧ a.groups.length ≤ 1048576 ∧ a.barriers.length ≤ 1048576 ∧ a.rooms.length ≤ 1048576 := ⟨h.1, h.2.1, h.2.2.1, h.2.2.2.1⟩
theorem OpOk.near {p : Prog} (ok : ProgOk p) {o : Op} (h : OpOk p o) : o.near := by
 obtain ⟨h1, h2, h3, h4, h5⟩ := h
 have hs : p.shared o.kind ≤ 4 := by
   have := ok.sems.1
   have := ok.groups.1
   have := ok.barriers.1
   have := ok.rooms.1
   unfold Prog.shared
   repeat' split
   all_goals omega
 have ha : -100 ≤ o.arg ∧ o.arg ≤ 1000 := by
   unfold Prog.argOk at h5
   split at h5
   · have hg : p.sems.getD o.on.toNat 0 ≤ 9 := by
       rw [List.getD_eq_getElem?_getD]
       cases e : p.sems[o.on.toNat]? with
       | none => simp
       | some x => exact (ok.sems.2 x (List.mem_of_getElem? e)).2
     omega
   · split at h5
     · omega
     · split at h5
       · simp [aR] at h5; omega
       · omega
 exact ⟨by omega, by omega, by omega, by omega⟩
theorem mC {l : List Int} {a b : Int} (h : gE l a b) (ha : -1000 ≤ a) (hb : b ≤ 1000) : ∀ x ∈ l, wA x := fun x hx => by
 have := h.2 x hx
 exact ⟨by omega, by omega⟩
theorem fE0 {first : Bool} {out : Str} {l : List Op} {k : Nat} (h : k < l.length) : nR first out (l.drop k) = nR false (((if first = true then out else out ++ [44]) ++ [32]) ++ fC l[k]) (l.drop (k + 1)) := by
 rw [List.drop_eq_getElem_cons h, nR]
theorem wO {out : Str} {l : List (List Op)} {k : Nat} (h : k < l.length) : fQ out (l.drop k) = fQ (nR true (out ++ [116, 104, 114, 101, 97, 100]) l[k] ++ [10]) (l.drop (k + 1)) := by
 rw [List.drop_eq_getElem_cons h, fQ]
theorem fF0 (p : ProgH) (w : World) (h : At w [fR (bD p)]) (ok : ProgOk p.pure) :
   Calls Tryz.prog 156 #[eJ p] w (Ret w fun v L => v = .string (bs (rY p.pure)) ∧ L = []) := by
 have s0 : p.sems.length ≤ 3 := ok.sems.1
 have s1 : p.groups.length ≤ 3 := ok.groups.1
 have s2 : p.barriers.length ≤ 3 := ok.barriers.1
 have s3 : p.rooms.length ≤ 3 := ok.rooms.1
 have lt : p.pure.threads.length = p.threads.length := by simp [ProgH.pure]
 have s4 : p.threads.length ≤ 4 := by rw [← lt]; exact ok.n4
 have q0 := pU [115, 101, 109, 115] p.sems
 have q1 := pU [103, 114, 111, 117, 112, 115] p.groups
 have q2 := pU [98, 97, 114, 114, 105, 101, 114, 115] p.barriers
 have q3 := pU [114, 111, 111, 109, 115] p.rooms
 simp only [List.length_cons, List.length_nil] at q0 q1 q2 q3
 refine bU Tryz.func156 rfl aA w _ rfl _ rfl _ h ⟨rfl, rfl, trivial⟩ _ (by decide) ?_
 refine aB _ jH0 rfl rfl rfl rfl ⟨rfl, rfl⟩ (fun A w hW => kO p w ⟨hW.get 0 rfl (.refl _), trivial⟩ ⟨by omega, by omega, by omega, by omega⟩) ?_
 rintro v L ⟨b0, rfl, hb0, rfl⟩
 refine CaseB.mk (fun g => by rw [hb0.2 ok] at g; cases g) (fun _ => ?_)
 refine aH aA z88 z88 z88 200 [((0, 0), .v (p.h0.val p.sems.length)), ((0, 1), .v (p.h1.val p.groups.length)), ((0, 2), .v (p.h2.val p.barriers.length)), ((0, 3), .v (p.h3.val p.rooms.length)), ((0, 4), .v (p.h4.val p.threads.length))] [] [] z94 z105 trivial rfl ?_
 refine bV _ dJ0 rfl rfl rfl rfl ⟨rfl, rfl⟩ (fun A w hW => (yY [115, 101, 109, 115] p.h0 p.sems w ⟨hW.get 0 rfl (.ofR (fA p)), trivial⟩ (by decide) (by omega) (mC ok.sems (by decide) (by decide)))) ?_
 rintro v L ⟨rfl, rfl⟩
 refine bV _ dJ0 rfl rfl rfl rfl ⟨rfl, rfl⟩ (fun A w hW => (yY [103, 114, 111, 117, 112, 115] p.h1 p.groups w ⟨hW.get 0 rfl (.ofR (kL p)), trivial⟩ (by decide) (by omega) (mC ok.groups (by decide) (by decide)))) ?_
 rintro v L ⟨rfl, rfl⟩
 refine jB rfl rfl rfl ⟨rfl, rfl⟩ (.string (bs ((eK [115, 101, 109, 115] p.sems) ++ (eK [103, 114, 111, 117, 112, 115] p.groups)))) (fun w => aO w) (fun w => bP (by omega) w) ?_
 refine bV _ dJ0 rfl rfl rfl rfl ⟨rfl, rfl⟩ (fun A w hW => (yY [98, 97, 114, 114, 105, 101, 114, 115] p.h2 p.barriers w ⟨hW.get 0 rfl (.ofR (fG p)), trivial⟩ (by decide) (by omega) (mC ok.barriers (by decide) (by decide)))) ?_
 rintro v L ⟨rfl, rfl⟩
 refine jB rfl rfl rfl ⟨rfl, rfl⟩ (.string (bs ((eK [115, 101, 109, 115] p.sems ++ eK [103, 114, 111, 117, 112, 115] p.groups) ++ (eK [98, 97, 114, 114, 105, 101, 114, 115] p.barriers)))) (fun w => aO w) (fun w => bP (by simp only [List.length_append]; omega) w) ?_
 refine bV _ dJ0 rfl rfl rfl rfl ⟨rfl, rfl⟩ (fun A w hW => (yY [114, 111, 111, 109, 115] p.h3 p.rooms w ⟨hW.get 0 rfl (.ofR (iF p)), trivial⟩ (by decide) (by omega) (mC ok.rooms (by decide) (by decide)))) ?_
 rintro v L ⟨rfl, rfl⟩
 refine jB rfl rfl rfl ⟨rfl, rfl⟩ (.string (bs (((eK [115, 101, 109, 115] p.sems ++ eK [103, 114, 111, 117, 112, 115] p.groups) ++ eK [98, 97, 114, 114, 105, 101, 114, 115] p.barriers) ++ (eK [114, 111, 111, 109, 115] p.rooms)))) (fun w => aO w) (fun w => bP (by simp only [List.length_append]; omega) w) ?_
 have hF : rY p.pure = fQ (((eK [115, 101, 109, 115] p.sems ++ eK [103, 114, 111, 117, 112, 115] p.groups) ++ eK [98, 97, 114, 114, 105, 101, 114, 115] p.barriers) ++ eK [114, 111, 111, 109, 115] p.rooms) p.pure.threads := rfl
 rw [hF]
 have hol : ((((eK [115, 101, 109, 115] p.sems ++ eK [103, 114, 111, 117, 112, 115] p.groups) ++ eK [98, 97, 114, 114, 105, 101, 114, 115] p.barriers) ++ eK [114, 111, 111, 109, 115] p.rooms)).length ≤ 1000 := by simp only [List.length_append]; omega
 clear hF q0 q1 q2 q3
 generalize (((eK [115, 101, 109, 115] p.sems ++ eK [103, 114, 111, 117, 112, 115] p.groups) ++ eK [98, 97, 114, 114, 105, 101, 114, 115] p.barriers) ++ eK [114, 111, 111, 109, 115] p.rooms) = o1 at hol ⊢
 refine LoopW.mk ⟨{ q : Nat × Str // q.1 ≤ p.threads.length ∧ fQ o1 p.pure.threads = fQ q.2 (p.pure.threads.drop q.1) ∧ q.2.length ≤ 1000 + 1000 * q.1 },
   fun q => .mk [(1, .p 0 0), (3, .v (.string (bs q.1.2))), (4, .v (.int .i64 (q.1.1 : Int)))] 1 0 [(0, 38, 5)] [((0, 4), .v (p.h4.val p.threads.length))] [fR (bD p)],
   fun q => p.threads.length - q.1.1, ⟨(0, o1), Nat.zero_le _, rfl, by simpa using hol⟩, ?_, ?_⟩
 · exact aC [0] zw2 zw0 zw2 zw5 zw4 rfl rfl
 rintro ⟨⟨i, out⟩, i1, i2, i3⟩
 simp only at i1 i2 i3 ⊢
 apply CaseB.mk <;> intro g
 · have hlt : i < p.threads.length := by have := of_decide_eq_true g; omega
   have hlt2 : i < p.pure.threads.length := by omega
   have hw := bA i _ hlt (by omega)
   have ht : p.pure.threads[i] = (p.threads[i]).m := by simp [ProgH.pure]
   have hopk := ok.ops _ (List.getElem_mem hlt2)
   rw [ht] at hopk
   rw [wO hlt2, ht] at i2
   refine bJ rfl rfl rfl ⟨rfl, rfl⟩ (.string (bs (out ++ [116, 104, 114, 101, 97, 100]))) (fun w => aO w) (fun w => bP z65 w) ?_
   obtain ⟨ops, hops⟩ : ∃ ops, ops = (p.threads[i]).m := ⟨_, rfl⟩
   rw [← hops] at hopk i2
   refine LoopW.mk ⟨{ q : Nat × Str // q.1 ≤ ops.length ∧ nR true (out ++ [116, 104, 114, 101, 97, 100]) ops = nR (decide (q.1 = 0)) q.2 (ops.drop q.1) ∧ q.2.length ≤ out.length + 6 + 62 * q.1 },
     fun q => .mk [(1, .p 0 0), (3, .v (.string (bs q.1.2))), (4, .v (.int .i64 (i : Int))), (5, .v (.int .i64 (q.1.1 : Int)))] 1 0 [(0, 38, 5)] [((0, 4), .v (p.h4.val p.threads.length))] [fR (bD p)],
     fun q => ops.length - q.1.1, ⟨(0, out ++ [116, 104, 114, 101, 97, 100]), Nat.zero_le _, rfl, by simp⟩, ?_, ?_⟩
   · exact aC [0] zw2 zw0 zw2 zw5 zw4 rfl rfl
   rintro ⟨⟨k, o2⟩, k1, k2, k3⟩
   simp only at k1 k2 k3 ⊢
   subst hops
   refine aF eR aA rfl rfl rfl rfl rfl ⟨rfl, rfl⟩ (aN 0 rfl (.trans (.R_R (bE p)) (.ofR bK))) i rfl z37 (fun ad => ?_)
   refine CaseB.mk (fun g2 => ?_) (fun g2 => ?_)
   · have hkl : k < (p.threads[i]).m.length := by have := of_decide_eq_true g2; omega
     have hw2 := bA k _ hkl (by omega)
     have hne := OpOk.near ok (hopk.2 _ (List.getElem_mem hkl))
     have hfl := cE0 ((p.threads[i]).m[k])
     rw [fE0 hkl] at k2
     refine CaseB.mk (fun g3 => ?_) (fun g3 => ?_)
     · have hk0 : ¬ k = 0 := by have := of_decide_eq_true g3; omega
       rw [decide_eq_false hk0, if_neg (by decide)] at k2
       refine bJ rfl rfl rfl ⟨rfl, rfl⟩ (.string (bs (o2 ++ [44]))) (fun w => aO w) (fun w => bP z65 w) ?_
       refine bJ rfl rfl rfl ⟨rfl, rfl⟩ (.string (bs ((o2 ++ [44]) ++ [32]))) (fun w => aO w) (fun w => bP z51 w) ?_
       refine aF eR aA rfl rfl rfl rfl rfl ⟨rfl, rfl⟩ (aN 0 rfl (.trans (.R_R (bE p)) (.ofR bK))) i rfl z37 (fun ad2 => ?_)
       refine aF oX aA rfl rfl rfl rfl rfl ⟨rfl, rfl⟩ (aN 0 rfl (.trans (.R_R (bE p)) (.ofR (gD _ _ i hlt)))) k rfl hkl (fun ad3 => ?_)
       refine aB _ gL0 rfl rfl rfl rfl ⟨rfl, rfl⟩ (fun A w hW => (yX _ w hne)) ?_
       rintro v L ⟨rfl, rfl⟩
       refine bJ rfl rfl rfl ⟨rfl, rfl⟩ (.string (bs (((o2 ++ [44]) ++ [32]) ++ (fC ((p.threads[i]).m[k]))))) (fun w => aO w) (fun w => bP z51 w) ?_
       refine ⟨⟨(k + 1, ((o2 ++ [44]) ++ [32]) ++ fC ((p.threads[i]).m[k])), hkl, by rw [decide_eq_false (by omega)]; exact k2, by simp only [List.length_append, List.length_cons, List.length_nil]; omega⟩, ?_, by simp only; omega⟩
       exact aC [0] zw8 zw0 zw8 zw5 zw18 rfl rfl
     have hk0 : k = 0 := by have := of_decide_eq_false g3; omega
     rw [decide_eq_true hk0, if_pos rfl] at k2
     refine bJ rfl rfl rfl ⟨rfl, rfl⟩ (.string (bs (o2 ++ [32]))) (fun w => aO w) (fun w => bP z51 w) ?_
     refine aF eR aA rfl rfl rfl rfl rfl ⟨rfl, rfl⟩ (aN 0 rfl (.trans (.R_R (bE p)) (.ofR bK))) i rfl z37 (fun ad2 => ?_)
     refine aF oX aA rfl rfl rfl rfl rfl ⟨rfl, rfl⟩ (aN 0 rfl (.trans (.R_R (bE p)) (.ofR (gD _ _ i hlt)))) k rfl hkl (fun ad3 => ?_)
     refine aB _ gL0 rfl rfl rfl rfl ⟨rfl, rfl⟩ (fun A w hW => (yX _ w hne)) ?_
     rintro v L ⟨rfl, rfl⟩
     refine bJ rfl rfl rfl ⟨rfl, rfl⟩ (.string (bs ((o2 ++ [32]) ++ (fC ((p.threads[i]).m[k]))))) (fun w => aO w) (fun w => bP z51 w) ?_
     refine ⟨⟨(k + 1, (o2 ++ [32]) ++ fC ((p.threads[i]).m[k])), hkl, by rw [decide_eq_false (by omega)]; exact k2, by simp only [List.length_append, List.length_cons, List.length_nil]; omega⟩, ?_, by simp only; omega⟩
     exact aC [0] zw8 zw0 zw8 zw5 zw18 rfl rfl
   have hge : (p.threads[i]).m.length ≤ k := by have := of_decide_eq_false g2; omega
   rw [List.drop_eq_nil_of_le hge, nR] at k2
   rw [k2] at i2
   refine bJ rfl rfl rfl ⟨rfl, rfl⟩ (.string (bs (o2 ++ [10]))) (fun w => aO w) (fun w => bP z51 w) ?_
   refine ⟨⟨(i + 1, o2 ++ [10]), hlt, i2, by simp only [List.length_append, List.length_cons, List.length_nil]; omega⟩, ?_, by simp only; omega⟩
   exact aC [0] zw1 zw0 zw1 zw5 zw3 rfl rfl
 have hge : p.pure.threads.length ≤ i := by have := of_decide_eq_false g; omega
 rw [List.drop_eq_nil_of_le hge, fQ] at i2
 rw [i2]
 exact aG ⟨rfl, rfl⟩ (fun _ => rfl)
def jJ (i : Nat) (x : Int) : List Int := if x = 0 ∨ x = 2 then [(i : Int)] else []
def dK (s : State) : List Int := if s.fault = 0 then evL jJ 0 s.status else []
theorem qV (xs : List Int) : (evL jJ 0 xs).length ≤ xs.length := by
 have := nP (f := jJ) (C := 1) (i := 0) (xs := xs) fun i x _ => by unfold jJ; split <;> simp
 omega
def Chan.zero : Chan := ⟨0, [], [], [], false⟩
def Chan.send (m : Chan) (t v : Int) : Chan × List Int × Bool × Bool :=
 if m.Valid ∧ m.closed = false ∧ aW t = true ∧ aR v = true ∧ ¬ t ∈ m.threads then
   if h : 0 < m.getters.length then ({ m with getters := m.getters.drop 1 }, [m.getters[0]], true, true)
   else if (m.items.length : Int) < m.room then ({ m with items := m.items ++ [v] }, [], true, true)
   else ({ m with senders := m.senders ++ [⟨t, v⟩] }, [], false, true)
 else (.zero, [], false, false)
def gI : Sl := ⟨none, 0⟩
def SendR (p : Chan × List Int × Bool × Bool) (v : Value) (L : List Fct) : Prop :=
 ∃ i s g r : Sl, v = .tuple #[kZ p.1 i s g, r.val p.2.1.length, .bool p.2.2.1, .bool p.2.2.2] ∧ L = [own i 3 aL 1 p.1.items, own s 164 jY 2 p.1.senders, own g 3 aL 1 p.1.getters, own r 3 aL 1 p.2.1]
theorem nU {m : Chan} (h : (!m.valid) = false) : m.Valid := by simpa [Chan.valid] using h
theorem zE {m : Chan} (h : (!m.valid) = true) : ¬ m.Valid := by simpa [Chan.valid] using h
end Go.Proofs.YtchkcjeeknfchaaGreatDoor
