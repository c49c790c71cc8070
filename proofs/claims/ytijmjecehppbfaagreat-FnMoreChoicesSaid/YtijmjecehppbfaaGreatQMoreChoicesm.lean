/- FnMoreChoices: texts that its proof stands on, part 13. -/
import Derived.Laws.IdiomStrings
import Derived.Laws.Strings2
import Derived.Laws.Slices
import Derived.Laws.Concat
import Derived.Test.YtijmjecehppbfaaGreatQMoreChoicesl
namespace Go.Proofs.YtijmjecehppbfaaGreat
set_option maxRecDepth 100000
set_option maxHeartbeats 100000000
open Go Go.Sx Go.RowKit
theorem lB0 {Zs G : List Fct} (hm : fR G ∈ Zs) {o : Bool} {i : Sl} {sz m : Nat} {cs : List Value} (r : Rd (fR G) (fSl o i sz cs m)) : ∀ w, (∀ f ∈ Zs, f.P w) → RdS w i sz cs m := fun w h => r.p w (h _ hm)
theorem lC0 (s : StateH) (w : World) (h : At w [fR (aK s)]) (hb : s.pure.small20) :
   Calls Tryz.prog 81 #[aM s] w (Ret w fun v L => ∃ y : StateH, v = aM y ∧ y.pure = s.pure ∧ L = [fO (aK y)]) := by
 obtain ⟨b0, b1, b2, b3, b4, b5, b6, b7⟩ := hb
 have l0 : s.places.length ≤ 1048576 := b0
 have l1 : s.status.length ≤ 1048576 := b1
 have l7 : s.said.length ≤ 1048576 := b7
 have l2 : s.sems.length ≤ 1048576 := (bM b2).1
 have l3 : s.onces.length ≤ 1048576 := (bM b3).1
 have l4 : s.groups.length ≤ 1048576 := (bM b4).1
 have l5 : s.barriers.length ≤ 1048576 := (bM b5).1
 have l6 : s.chans.length ≤ 1048576 := (bM b6).1
 refine bZ Tryz.func81 rfl aA w _ rfl _ rfl _ h ⟨rfl, rfl, trivial⟩ _ (by decide) ?_
 refine pW (Sl × Sl × Sl) (fun y => .mk [(1, .p 0 0), (2, .p 1 0), (3, .p 2 0)] 3 0 [(0, 35, 9), (1, 35, 9), (2, 35, 9)] [((0, 0), .v (s.h0.val s.places.length)), ((0, 1), .v (s.h1.val s.status.length)), ((0, 2), .v (s.h2.val s.sems.length)), ((0, 3), .v (s.h3.val s.onces.length)), ((0, 4), .v (s.h4.val s.groups.length)), ((0, 5), .v (s.h5.val s.barriers.length)), ((0, 6), .v (s.h6.val s.chans.length)), ((0, 7), .v (s.h7.val s.said.length)), ((0, 8), .v (.int .i64 s.fault)), ((2, 0), .v (y.1.val s.places.length)), ((2, 1), .v (y.2.1.val s.status.length)), ((2, 2), .v (.slice none 0 0)), ((2, 3), .v (.slice none 0 0)), ((2, 4), .v (.slice none 0 0)), ((2, 5), .v (.slice none 0 0)), ((2, 6), .v (.slice none 0 0)), ((2, 7), .v (y.2.2.val s.said.length)), ((2, 8), .v (.int .i64 s.fault))] [own y.1 3 aJ 1 s.places, own y.2.1 3 aJ 1 s.status, own y.2.2 3 aJ 1 s.said, fR (aK s)]) ?_ ?_
 · refine aF aA z102 z102 z102 200 [((0, 0), .v (s.h0.val s.places.length)), ((0, 1), .v (s.h1.val s.status.length)), ((0, 7), .v (s.h7.val s.said.length)), ((0, 8), .v (.int .i64 s.fault))] [] [] z122 z138 trivial rfl ?_
   repeat' ((conv => whnf); (first
     | refine BothW.mk ?_ ?_
     | refine AllSl.mk fun y => ?_
     | (refine oS rfl rfl ?_; refine mQ (ti := aU tab) aE aA (xs := ([] : List Int)) rfl rfl rfl rfl rfl rfl rfl rfl rfl (by decide) ⟨rfl, rfl⟩ z39 (by first | exact lB0 z79 (.ofR (eF s)) | exact lB0 z79 (.ofR (cS s)) | exact lB0 z79 (.ofR (fM s))) z43 z43 z100 (fun y => ?_))
     | fail))
   all_goals
     refine ⟨(?_, ?_, ?_), ?_⟩
     rotate_left 3
     exact aC [2, 1, 0, 3] zw2 zw0 zw2 zw5 zw4 rfl rfl
 rintro ⟨a, b, d⟩
 simp only
 refine LoopW.mk ⟨{ q : Nat × Sl × List SemH // q.1 ≤ s.sems.length ∧ q.2.2.map (·.m) = (s.sems.map (·.m)).take q.1 },
   fun q => .mk [(1, .p 0 0), (2, .p 1 0), (3, .p 2 0), (4, .v (.int .i64 (q.1.1 : Int)))] 3 0 [(0, 35, 9), (1, 35, 9), (2, 35, 9)] [((0, 0), .v (s.h0.val s.places.length)), ((0, 1), .v (s.h1.val s.status.length)), ((0, 2), .v (s.h2.val s.sems.length)), ((0, 3), .v (s.h3.val s.onces.length)), ((0, 4), .v (s.h4.val s.groups.length)), ((0, 5), .v (s.h5.val s.barriers.length)), ((0, 6), .v (s.h6.val s.chans.length)), ((0, 7), .v (s.h7.val s.said.length)), ((0, 8), .v (.int .i64 s.fault)), ((2, 0), .v (a.val s.places.length)), ((2, 1), .v (b.val s.status.length)), ((2, 2), .v (q.1.2.1.val q.1.2.2.length)), ((2, 3), .v (.slice none 0 0)), ((2, 4), .v (.slice none 0 0)), ((2, 5), .v (.slice none 0 0)), ((2, 6), .v (.slice none 0 0)), ((2, 7), .v (d.val s.said.length)), ((2, 8), .v (.int .i64 s.fault))] [own q.1.2.1 95 gI 3 q.1.2.2, fO (q.1.2.2.flatMap oD), own a 3 aJ 1 s.places, own b 3 aJ 1 s.status, own d 3 aJ 1 s.said, fR (aK s)],
   fun q => s.sems.length - q.1.1, ⟨(0, ⟨none, 0⟩, []), Nat.zero_le _, by simp⟩, ?_, ?_⟩
 · refine aP (.joinO [] (Gs := []) trivial rfl (.refl _)) ?_
   exact aC [99, 0, 1, 2, 3, 4] zw2 zw0 zw2 zw5 zw4 rfl rfl
 rintro ⟨⟨k, c0, L0⟩, hk, hL0⟩
 simp only at hk hL0
 have ln0 : L0.length = k := by have := congrArg List.length hL0; simp at this; omega
 apply CaseB.mk <;> intro g
 · have hlt : k < s.sems.length := by simpa using g
   have hw := bD k _ hlt (by omega)
   have hsm := (bM b2).2 _ (List.getElem_mem hlt)
   unfold Sem.small20 at hsm
   refine aF aA z102 z102 z102 200 [((0, 2), .v (s.h2.val s.sems.length))] [5] [_] z146 z149 ⟨rfl, trivial⟩ rfl ?_
   refine bO (ti := aU tab) cZ aA rfl rfl rfl rfl rfl ⟨rfl, rfl⟩ (aL 0 rfl (.trans (.R_R (bU s)) (.ofR aX))) k rfl z43 (fun ad => ?_)
   refine BothW.mk ?_ ?_
   all_goals
     refine bN _ fK0 rfl rfl rfl rfl ⟨rfl, rfl⟩ (fun A w hW => tQ _ _ w ⟨hW.get 5 rfl (.trans (.R_R (bU s)) (.ofR (iV _ _ k hlt))), trivial⟩ (by omega)) ?_
     rintro v L ⟨y0, rfl, rfl⟩
   rotate_left
   · refine BothW.mk ?_ ?_
     all_goals
       refine AllSl.mk fun u2 => ?_
       refine bR (ti := aU tab) cZ 2 aA (ys := [⟨(s.sems[k]).m, y0⟩]) rfl rfl rfl rfl rfl rfl rfl rfl rfl (by decide) ⟨rfl, rfl⟩ rfl z35 z43 z43 z100 (fun c2 => ?_)
       refine ⟨⟨(k + 1, c2, L0 ++ [⟨(s.sems[k]).m, y0⟩]), hlt, by rw [List.map_append]; exact aR hlt hL0 rfl⟩, ?_, by simp only; omega⟩
       refine aP (.joinO [2, 3] (Gs := [[_], _]) z136 rfl (G := (L0 ++ [(⟨(s.sems[k]).m, y0⟩ : SemH)]).flatMap oD) z50) ?_
       exact aC [1, 0, 3, 4, 5, 6] zw1 zw0 zw1 zw5 zw3 rfl rfl
   refine AllSl.mk fun u2 => ?_
   refine bR (ti := aU tab) cZ 2 aA (ys := [⟨(s.sems[k]).m, y0⟩]) rfl rfl rfl rfl rfl rfl rfl rfl rfl (by decide) ⟨rfl, rfl⟩ rfl z35 z43 z43 z100 (fun c2 => ?_)
   refine ⟨⟨(k + 1, c2, L0 ++ [⟨(s.sems[k]).m, y0⟩]), hlt, by rw [List.map_append]; exact aR hlt hL0 rfl⟩, ?_, by simp only; omega⟩
   refine aP (.joinO [2, 3] (Gs := [[_], _]) z136 rfl (G := (L0 ++ [(⟨(s.sems[k]).m, y0⟩ : SemH)]).flatMap oD) z50) ?_
   exact aC [1, 0, 3, 4, 5, 6] zw1 zw0 zw1 zw5 zw3 rfl rfl
 have hge : s.sems.length ≤ k := by simpa using g
 rw [List.take_of_length_le z91] at hL0
 refine LoopW.mk ⟨{ q : Nat × Sl × List OnceH // q.1 ≤ s.onces.length ∧ q.2.2.map (·.m) = (s.onces.map (·.m)).take q.1 },
   fun q => .mk [(1, .p 0 0), (2, .p 1 0), (3, .p 2 0), (5, .v (.int .i64 (q.1.1 : Int)))] 3 0 [(0, 35, 9), (1, 35, 9), (2, 35, 9)] [((0, 0), .v (s.h0.val s.places.length)), ((0, 1), .v (s.h1.val s.status.length)), ((0, 2), .v (s.h2.val s.sems.length)), ((0, 3), .v (s.h3.val s.onces.length)), ((0, 4), .v (s.h4.val s.groups.length)), ((0, 5), .v (s.h5.val s.barriers.length)), ((0, 6), .v (s.h6.val s.chans.length)), ((0, 7), .v (s.h7.val s.said.length)), ((0, 8), .v (.int .i64 s.fault)), ((2, 0), .v (a.val s.places.length)), ((2, 1), .v (b.val s.status.length)), ((2, 2), .v (c0.val L0.length)), ((2, 3), .v (q.1.2.1.val q.1.2.2.length)), ((2, 4), .v (.slice none 0 0)), ((2, 5), .v (.slice none 0 0)), ((2, 6), .v (.slice none 0 0)), ((2, 7), .v (d.val s.said.length)), ((2, 8), .v (.int .i64 s.fault))] [own q.1.2.1 102 eD 4 q.1.2.2, fO (q.1.2.2.flatMap mW), fO (jF c0 L0), own a 3 aJ 1 s.places, own b 3 aJ 1 s.status, own d 3 aJ 1 s.said, fR (aK s)],
   fun q => s.onces.length - q.1.1, ⟨(0, ⟨none, 0⟩, []), Nat.zero_le _, by simp⟩, ?_, ?_⟩
 · refine aP (.joinO [0, 1] (Gs := [[_], _]) z136 rfl (G := jF c0 L0) (.of_eq (by simp [jF, iK]))) ?_
   refine aP (.joinO [] (Gs := []) trivial rfl (.refl _)) ?_
   exact aC [99, 0, 1, 2, 3, 4, 5] zw2 zw0 zw2 zw5 zw4 rfl rfl
 rintro ⟨⟨k, c1, L1⟩, hk, hL1⟩
 simp only at hk hL1
 have ln1 : L1.length = k := by have := congrArg List.length hL1; simp at this; omega
 apply CaseB.mk <;> intro g
 · have hlt : k < s.onces.length := by simpa using g
   have hw := bD k _ hlt (by omega)
   have hsm := (bM b3).2 _ (List.getElem_mem hlt)
   unfold Once.small20 at hsm
   refine aF aA z102 z102 z102 200 [((0, 3), .v (s.h3.val s.onces.length))] [6] [_] z146 z149 ⟨rfl, trivial⟩ rfl ?_
   refine bO (ti := aU tab) cX aA rfl rfl rfl rfl rfl ⟨rfl, rfl⟩ (aL 0 rfl (.trans (.R_R (bW s)) (.ofR aX))) k rfl z43 (fun ad => ?_)
   refine BothW.mk ?_ ?_
   all_goals
     refine bN _ nM0 rfl rfl rfl rfl ⟨rfl, rfl⟩ (fun A w hW => cZ0 _ _ w ⟨hW.get 6 rfl (.trans (.R_R (bW s)) (.ofR (hC _ _ k hlt))), trivial⟩ (by omega)) ?_
     rintro v L ⟨y0, rfl, rfl⟩
   rotate_left
   · refine BothW.mk ?_ ?_
     all_goals
       refine AllSl.mk fun u2 => ?_
       refine bR (ti := aU tab) cX 2 aA (ys := [⟨(s.onces[k]).m, y0⟩]) rfl rfl rfl rfl rfl rfl rfl rfl rfl (by decide) ⟨rfl, rfl⟩ rfl z35 z43 z43 z100 (fun c2 => ?_)
       refine ⟨⟨(k + 1, c2, L1 ++ [⟨(s.onces[k]).m, y0⟩]), hlt, by rw [List.map_append]; exact aR hlt hL1 rfl⟩, ?_, by simp only; omega⟩
       refine aP (.joinO [2, 3] (Gs := [[_], _]) z136 rfl (G := (L1 ++ [(⟨(s.onces[k]).m, y0⟩ : OnceH)]).flatMap mW) z48) ?_
       exact aC [1, 0, 3, 4, 5, 6, 7] zw1 zw0 zw1 zw5 zw3 rfl rfl
   refine AllSl.mk fun u2 => ?_
   refine bR (ti := aU tab) cX 2 aA (ys := [⟨(s.onces[k]).m, y0⟩]) rfl rfl rfl rfl rfl rfl rfl rfl rfl (by decide) ⟨rfl, rfl⟩ rfl z35 z43 z43 z100 (fun c2 => ?_)
   refine ⟨⟨(k + 1, c2, L1 ++ [⟨(s.onces[k]).m, y0⟩]), hlt, by rw [List.map_append]; exact aR hlt hL1 rfl⟩, ?_, by simp only; omega⟩
   refine aP (.joinO [2, 3] (Gs := [[_], _]) z136 rfl (G := (L1 ++ [(⟨(s.onces[k]).m, y0⟩ : OnceH)]).flatMap mW) z48) ?_
   exact aC [1, 0, 3, 4, 5, 6, 7] zw1 zw0 zw1 zw5 zw3 rfl rfl
 have hge : s.onces.length ≤ k := by simpa using g
 rw [List.take_of_length_le z91] at hL1
 refine LoopW.mk ⟨{ q : Nat × Sl × List GroupH // q.1 ≤ s.groups.length ∧ q.2.2.map (·.m) = (s.groups.map (·.m)).take q.1 },
   fun q => .mk [(1, .p 0 0), (2, .p 1 0), (3, .p 2 0), (6, .v (.int .i64 (q.1.1 : Int)))] 3 0 [(0, 35, 9), (1, 35, 9), (2, 35, 9)] [((0, 0), .v (s.h0.val s.places.length)), ((0, 1), .v (s.h1.val s.status.length)), ((0, 2), .v (s.h2.val s.sems.length)), ((0, 3), .v (s.h3.val s.onces.length)), ((0, 4), .v (s.h4.val s.groups.length)), ((0, 5), .v (s.h5.val s.barriers.length)), ((0, 6), .v (s.h6.val s.chans.length)), ((0, 7), .v (s.h7.val s.said.length)), ((0, 8), .v (.int .i64 s.fault)), ((2, 0), .v (a.val s.places.length)), ((2, 1), .v (b.val s.status.length)), ((2, 2), .v (c0.val L0.length)), ((2, 3), .v (c1.val L1.length)), ((2, 4), .v (q.1.2.1.val q.1.2.2.length)), ((2, 5), .v (.slice none 0 0)), ((2, 6), .v (.slice none 0 0)), ((2, 7), .v (d.val s.said.length)), ((2, 8), .v (.int .i64 s.fault))] [own q.1.2.1 108 dR 2 q.1.2.2, fO (q.1.2.2.flatMap jD), fO (gT c1 L1), fO (jF c0 L0), own a 3 aJ 1 s.places, own b 3 aJ 1 s.status, own d 3 aJ 1 s.said, fR (aK s)],
   fun q => s.groups.length - q.1.1, ⟨(0, ⟨none, 0⟩, []), Nat.zero_le _, by simp⟩, ?_, ?_⟩
 · refine aP (.joinO [0, 1] (Gs := [[_], _]) z136 rfl (G := gT c1 L1) (.of_eq (by simp [gT, iK]))) ?_
   refine aP (.joinO [] (Gs := []) trivial rfl (.refl _)) ?_
   exact aC [99, 0, 1, 2, 3, 4, 5, 6] zw2 zw0 zw2 zw5 zw4 rfl rfl
 rintro ⟨⟨k, c2, L2⟩, hk, hL2⟩
 simp only at hk hL2
 have ln2 : L2.length = k := by have := congrArg List.length hL2; simp at this; omega
 apply CaseB.mk <;> intro g
 · have hlt : k < s.groups.length := by simpa using g
   have hw := bD k _ hlt (by omega)
   have hsm := (bM b4).2 _ (List.getElem_mem hlt)
   unfold Group.small20 at hsm
   refine aF aA z102 z102 z102 200 [((0, 4), .v (s.h4.val s.groups.length))] [7] [_] z146 z149 ⟨rfl, trivial⟩ rfl ?_
   refine bO (ti := aU tab) cI aA rfl rfl rfl rfl rfl ⟨rfl, rfl⟩ (aL 0 rfl (.trans (.R_R (bL s)) (.ofR aX))) k rfl z43 (fun ad => ?_)
   refine bO (ti := aU tab) cI aA rfl rfl rfl rfl rfl ⟨rfl, rfl⟩ (aL 0 rfl (.trans (.R_R (bL s)) (.ofR aX))) k rfl z43 (fun ad2 => ?_)
   refine BothW.mk ?_ ?_
   · skip
     refine AllSl.mk fun u1 => ?_
     refine bR (ti := aU tab) aE 0 aA (xs := []) (ys := (s.groups[k]).m.waits) rfl rfl rfl rfl rfl rfl rfl rfl rfl (by decide) ⟨rfl, rfl⟩ rfl (aL 8 rfl (.trans (.R_R (bL s)) (.ofR (eK _ _ k hlt)))) z43 z43 z100 (fun y0 => ?_)
     refine AllSl.mk fun u2 => ?_
     refine bR (ti := aU tab) cI 2 aA (ys := [⟨(s.groups[k]).m, y0⟩]) rfl rfl rfl rfl rfl rfl rfl rfl rfl (by decide) ⟨rfl, rfl⟩ rfl z35 z43 z43 z100 (fun c2 => ?_)
     refine ⟨⟨(k + 1, c2, L2 ++ [⟨(s.groups[k]).m, y0⟩]), hlt, by rw [List.map_append]; exact aR hlt hL2 rfl⟩, ?_, by simp only; omega⟩
     refine aP (.joinO [2, 3] (Gs := [[_], _]) z136 rfl (G := (L2 ++ [(⟨(s.groups[k]).m, y0⟩ : GroupH)]).flatMap jD) z47) ?_
     exact aC [1, 0, 3, 4, 5, 6, 7, 8] zw1 zw0 zw1 zw5 zw3 rfl rfl
   refine AllSl.mk fun u1 => ?_
   refine BothW.mk ?_ ?_
   · skip
     refine bR (ti := aU tab) aE 0 aA (xs := []) (ys := (s.groups[k]).m.waits) rfl rfl rfl rfl rfl rfl rfl rfl rfl (by decide) ⟨rfl, rfl⟩ rfl (aL 8 rfl (.trans (.R_R (bL s)) (.ofR (eK _ _ k hlt)))) z43 z43 z100 (fun y0 => ?_)
     refine AllSl.mk fun u2 => ?_
     refine bR (ti := aU tab) cI 2 aA (ys := [⟨(s.groups[k]).m, y0⟩]) rfl rfl rfl rfl rfl rfl rfl rfl rfl (by decide) ⟨rfl, rfl⟩ rfl z35 z43 z43 z100 (fun c2 => ?_)
     refine ⟨⟨(k + 1, c2, L2 ++ [⟨(s.groups[k]).m, y0⟩]), hlt, by rw [List.map_append]; exact aR hlt hL2 rfl⟩, ?_, by simp only; omega⟩
     refine aP (.joinO [2, 3] (Gs := [[_], _]) z136 rfl (G := (L2 ++ [(⟨(s.groups[k]).m, y0⟩ : GroupH)]).flatMap jD) z47) ?_
     exact aC [1, 0, 3, 4, 5, 6, 7, 8] zw1 zw0 zw1 zw5 zw3 rfl rfl
   refine bR (ti := aU tab) aE 0 aA (xs := []) (ys := (s.groups[k]).m.waits) rfl rfl rfl rfl rfl rfl rfl rfl rfl (by decide) ⟨rfl, rfl⟩ rfl (aL 8 rfl (.trans (.R_R (bL s)) (.ofR (eK _ _ k hlt)))) z43 z43 z100 (fun y0 => ?_)
   refine BothW.mk ?_ ?_
   all_goals
     refine AllSl.mk fun u2 => ?_
     refine bR (ti := aU tab) cI 2 aA (ys := [⟨(s.groups[k]).m, y0⟩]) rfl rfl rfl rfl rfl rfl rfl rfl rfl (by decide) ⟨rfl, rfl⟩ rfl z35 z43 z43 z100 (fun c2 => ?_)
     refine ⟨⟨(k + 1, c2, L2 ++ [⟨(s.groups[k]).m, y0⟩]), hlt, by rw [List.map_append]; exact aR hlt hL2 rfl⟩, ?_, by simp only; omega⟩
     refine aP (.joinO [2, 3] (Gs := [[_], _]) z136 rfl (G := (L2 ++ [(⟨(s.groups[k]).m, y0⟩ : GroupH)]).flatMap jD) z47) ?_
     exact aC [1, 0, 3, 4, 5, 6, 7, 8] zw1 zw0 zw1 zw5 zw3 rfl rfl
 have hge : s.groups.length ≤ k := by simpa using g
 rw [List.take_of_length_le z91] at hL2
 refine LoopW.mk ⟨{ q : Nat × Sl × List BarrierH // q.1 ≤ s.barriers.length ∧ q.2.2.map (·.m) = (s.barriers.map (·.m)).take q.1 },
   fun q => .mk [(1, .p 0 0), (2, .p 1 0), (3, .p 2 0), (7, .v (.int .i64 (q.1.1 : Int)))] 3 0 [(0, 35, 9), (1, 35, 9), (2, 35, 9)] [((0, 0), .v (s.h0.val s.places.length)), ((0, 1), .v (s.h1.val s.status.length)), ((0, 2), .v (s.h2.val s.sems.length)), ((0, 3), .v (s.h3.val s.onces.length)), ((0, 4), .v (s.h4.val s.groups.length)), ((0, 5), .v (s.h5.val s.barriers.length)), ((0, 6), .v (s.h6.val s.chans.length)), ((0, 7), .v (s.h7.val s.said.length)), ((0, 8), .v (.int .i64 s.fault)), ((2, 0), .v (a.val s.places.length)), ((2, 1), .v (b.val s.status.length)), ((2, 2), .v (c0.val L0.length)), ((2, 3), .v (c1.val L1.length)), ((2, 4), .v (c2.val L2.length)), ((2, 5), .v (q.1.2.1.val q.1.2.2.length)), ((2, 6), .v (.slice none 0 0)), ((2, 7), .v (d.val s.said.length)), ((2, 8), .v (.int .i64 s.fault))] [own q.1.2.1 114 dA 3 q.1.2.2, fO (q.1.2.2.flatMap eC), fO (fL c2 L2), fO (gT c1 L1), fO (jF c0 L0), own a 3 aJ 1 s.places, own b 3 aJ 1 s.status, own d 3 aJ 1 s.said, fR (aK s)],
   fun q => s.barriers.length - q.1.1, ⟨(0, ⟨none, 0⟩, []), Nat.zero_le _, by simp⟩, ?_, ?_⟩
 · refine aP (.joinO [0, 1] (Gs := [[_], _]) z136 rfl (G := fL c2 L2) (.of_eq (by simp [fL, iK]))) ?_
   refine aP (.joinO [] (Gs := []) trivial rfl (.refl _)) ?_
   exact aC [99, 0, 1, 2, 3, 4, 5, 6, 7] zw2 zw0 zw2 zw5 zw4 rfl rfl
 rintro ⟨⟨k, c3, L3⟩, hk, hL3⟩
 simp only at hk hL3
 have ln3 : L3.length = k := by have := congrArg List.length hL3; simp at this; omega
 apply CaseB.mk <;> intro g
 · have hlt : k < s.barriers.length := by simpa using g
   have hw := bD k _ hlt (by omega)
   have hsm := (bM b5).2 _ (List.getElem_mem hlt)
   unfold Barrier.small20 at hsm
   refine aG cA aA rfl rfl rfl rfl rfl ⟨rfl, rfl⟩ (aL 8 rfl (.trans (.R_R (bJ s)) (.ofR aX))) k rfl z43 (fun ad => ?_)
   refine aF aA z102 z102 z102 200 [((3, 0), .v (.int .i64 (s.barriers[k]).m.parties)), ((3, 1), .v (.int .i64 (s.barriers[k]).m.round)), ((3, 2), .v ((s.barriers[k]).q.val (s.barriers[k]).m.waits.length))] [8] [_] z129 z141 ⟨rfl, trivial⟩ rfl ?_
   refine BothW.mk ?_ ?_
   · skip
     refine AllSl.mk fun u1 => ?_
     refine bR (ti := aU tab) aE 0 aA (xs := []) (ys := (s.barriers[k]).m.waits) rfl rfl rfl rfl rfl rfl rfl rfl rfl (by decide) ⟨rfl, rfl⟩ rfl (aL 9 rfl (.trans (.R_R (bJ s)) (.ofR (dO _ _ k hlt)))) z43 z43 z100 (fun y0 => ?_)
     refine AllSl.mk fun u2 => ?_
     refine bR (ti := aU tab) cA 2 aA (ys := [⟨(s.barriers[k]).m, y0⟩]) rfl rfl rfl rfl rfl rfl rfl rfl rfl (by decide) ⟨rfl, rfl⟩ rfl z35 z43 z43 z100 (fun c2 => ?_)
     refine ⟨⟨(k + 1, c2, L3 ++ [⟨(s.barriers[k]).m, y0⟩]), hlt, by rw [List.map_append]; exact aR hlt hL3 rfl⟩, ?_, by simp only; omega⟩
     refine aP (.joinO [2, 3] (Gs := [[_], _]) z136 rfl (G := (L3 ++ [(⟨(s.barriers[k]).m, y0⟩ : BarrierH)]).flatMap eC) z46) ?_
     exact aC [1, 0, 3, 4, 5, 6, 7, 8, 9] zw1 zw0 zw1 zw5 zw3 rfl rfl
   refine AllSl.mk fun u1 => ?_
   refine BothW.mk ?_ ?_
   · skip
     refine bR (ti := aU tab) aE 0 aA (xs := []) (ys := (s.barriers[k]).m.waits) rfl rfl rfl rfl rfl rfl rfl rfl rfl (by decide) ⟨rfl, rfl⟩ rfl (aL 9 rfl (.trans (.R_R (bJ s)) (.ofR (dO _ _ k hlt)))) z43 z43 z100 (fun y0 => ?_)
     refine AllSl.mk fun u2 => ?_
     refine bR (ti := aU tab) cA 2 aA (ys := [⟨(s.barriers[k]).m, y0⟩]) rfl rfl rfl rfl rfl rfl rfl rfl rfl (by decide) ⟨rfl, rfl⟩ rfl z35 z43 z43 z100 (fun c2 => ?_)
     refine ⟨⟨(k + 1, c2, L3 ++ [⟨(s.barriers[k]).m, y0⟩]), hlt, by rw [List.map_append]; exact aR hlt hL3 rfl⟩, ?_, by simp only; omega⟩
     refine aP (.joinO [2, 3] (Gs := [[_], _]) z136 rfl (G := (L3 ++ [(⟨(s.barriers[k]).m, y0⟩ : BarrierH)]).flatMap eC) z46) ?_
     exact aC [1, 0, 3, 4, 5, 6, 7, 8, 9] zw1 zw0 zw1 zw5 zw3 rfl rfl
   refine bR (ti := aU tab) aE 0 aA (xs := []) (ys := (s.barriers[k]).m.waits) rfl rfl rfl rfl rfl rfl rfl rfl rfl (by decide) ⟨rfl, rfl⟩ rfl (aL 9 rfl (.trans (.R_R (bJ s)) (.ofR (dO _ _ k hlt)))) z43 z43 z100 (fun y0 => ?_)
   refine BothW.mk ?_ ?_
   all_goals
     refine AllSl.mk fun u2 => ?_
     refine bR (ti := aU tab) cA 2 aA (ys := [⟨(s.barriers[k]).m, y0⟩]) rfl rfl rfl rfl rfl rfl rfl rfl rfl (by decide) ⟨rfl, rfl⟩ rfl z35 z43 z43 z100 (fun c2 => ?_)
     refine ⟨⟨(k + 1, c2, L3 ++ [⟨(s.barriers[k]).m, y0⟩]), hlt, by rw [List.map_append]; exact aR hlt hL3 rfl⟩, ?_, by simp only; omega⟩
     refine aP (.joinO [2, 3] (Gs := [[_], _]) z136 rfl (G := (L3 ++ [(⟨(s.barriers[k]).m, y0⟩ : BarrierH)]).flatMap eC) z46) ?_
     exact aC [1, 0, 3, 4, 5, 6, 7, 8, 9] zw1 zw0 zw1 zw5 zw3 rfl rfl
 have hge : s.barriers.length ≤ k := by simpa using g
 rw [List.take_of_length_le z91] at hL3
 refine LoopW.mk ⟨{ q : Nat × Sl × List ChanH // q.1 ≤ s.chans.length ∧ q.2.2.map (·.m) = (s.chans.map (·.m)).take q.1 },
   fun q => .mk [(1, .p 0 0), (2, .p 1 0), (3, .p 2 0), (9, .v (.int .i64 (q.1.1 : Int)))] 3 0 [(0, 35, 9), (1, 35, 9), (2, 35, 9)] [((0, 0), .v (s.h0.val s.places.length)), ((0, 1), .v (s.h1.val s.status.length)), ((0, 2), .v (s.h2.val s.sems.length)), ((0, 3), .v (s.h3.val s.onces.length)), ((0, 4), .v (s.h4.val s.groups.length)), ((0, 5), .v (s.h5.val s.barriers.length)), ((0, 6), .v (s.h6.val s.chans.length)), ((0, 7), .v (s.h7.val s.said.length)), ((0, 8), .v (.int .i64 s.fault)), ((2, 0), .v (a.val s.places.length)), ((2, 1), .v (b.val s.status.length)), ((2, 2), .v (c0.val L0.length)), ((2, 3), .v (c1.val L1.length)), ((2, 4), .v (c2.val L2.length)), ((2, 5), .v (c3.val L3.length)), ((2, 6), .v (q.1.2.1.val q.1.2.2.length)), ((2, 7), .v (d.val s.said.length)), ((2, 8), .v (.int .i64 s.fault))] [own q.1.2.1 119 fH 5 q.1.2.2, fO (q.1.2.2.flatMap gM), fO (eE c3 L3), fO (fL c2 L2), fO (gT c1 L1), fO (jF c0 L0), own a 3 aJ 1 s.places, own b 3 aJ 1 s.status, own d 3 aJ 1 s.said, fR (aK s)],
   fun q => s.chans.length - q.1.1, ⟨(0, ⟨none, 0⟩, []), Nat.zero_le _, by simp⟩, ?_, ?_⟩
 · refine aP (.joinO [0, 1] (Gs := [[_], _]) z136 rfl (G := eE c3 L3) (.of_eq (by simp [eE, iK]))) ?_
   refine aP (.joinO [] (Gs := []) trivial rfl (.refl _)) ?_
   exact aC [99, 0, 1, 2, 3, 4, 5, 6, 7, 8] zw2 zw0 zw2 zw5 zw4 rfl rfl
 rintro ⟨⟨k, c4, L4⟩, hk, hL4⟩
 simp only at hk hL4
 have ln4 : L4.length = k := by have := congrArg List.length hL4; simp at this; omega
 apply CaseB.mk <;> intro g
 · have hlt : k < s.chans.length := by simpa using g
   have hw := bD k _ hlt (by omega)
   have hsm := (bM b6).2 _ (List.getElem_mem hlt)
   obtain ⟨z0, z1, z2⟩ := hsm
   refine aF aA z102 z102 z102 200 [((0, 6), .v (s.h6.val s.chans.length))] [9] [_] z146 z149 ⟨rfl, trivial⟩ rfl ?_
   refine bO (ti := aU tab) cN aA rfl rfl rfl rfl rfl ⟨rfl, rfl⟩ (aL 0 rfl (.trans (.R_R (aQ s)) (.ofR aX))) k rfl z43 (fun ad => ?_)
   refine BothW.mk ?_ ?_
   all_goals
     refine bN _ fL0 rfl rfl rfl rfl ⟨rfl, rfl⟩ (fun A w hW => aM0 _ _ _ _ w ⟨hW.get 9 rfl (.trans (.R_R (aQ s)) (.ofR (kO _ _ k hlt))), hW.get 9 rfl (.trans (.R_R (aQ s)) (.ofR (gJ _ _ k hlt))), hW.get 9 rfl (.trans (.R_R (aQ s)) (.ofR (hH _ _ k hlt))), trivial⟩ ⟨by omega, by omega, by omega⟩) ?_
     rintro v L ⟨y0, y1, y2, rfl, rfl⟩
   rotate_left
   · refine BothW.mk ?_ ?_
     all_goals
       refine AllSl.mk fun u2 => ?_
       refine bR (ti := aU tab) cN 4 aA (ys := [⟨(s.chans[k]).m, y0, y1, y2⟩]) rfl rfl rfl rfl rfl rfl rfl rfl rfl (by decide) ⟨rfl, rfl⟩ rfl z35 z43 z43 z100 (fun c2 => ?_)
       refine ⟨⟨(k + 1, c2, L4 ++ [⟨(s.chans[k]).m, y0, y1, y2⟩]), hlt, by rw [List.map_append]; exact aR hlt hL4 rfl⟩, ?_, by simp only; omega⟩
       refine aP (.joinO [2, 3, 4, 5] (Gs := [[_], [_], [_], _]) z120 rfl (G := (L4 ++ [(⟨(s.chans[k]).m, y0, y1, y2⟩ : ChanH)]).flatMap gM) z49) ?_
       exact aC [1, 0, 3, 4, 5, 6, 7, 8, 9, 10] zw1 zw0 zw1 zw5 zw3 rfl rfl
   refine AllSl.mk fun u2 => ?_
   refine bR (ti := aU tab) cN 4 aA (ys := [⟨(s.chans[k]).m, y0, y1, y2⟩]) rfl rfl rfl rfl rfl rfl rfl rfl rfl (by decide) ⟨rfl, rfl⟩ rfl z35 z43 z43 z100 (fun c2 => ?_)
   refine ⟨⟨(k + 1, c2, L4 ++ [⟨(s.chans[k]).m, y0, y1, y2⟩]), hlt, by rw [List.map_append]; exact aR hlt hL4 rfl⟩, ?_, by simp only; omega⟩
   refine aP (.joinO [2, 3, 4, 5] (Gs := [[_], [_], [_], _]) z120 rfl (G := (L4 ++ [(⟨(s.chans[k]).m, y0, y1, y2⟩ : ChanH)]).flatMap gM) z49) ?_
   exact aC [1, 0, 3, 4, 5, 6, 7, 8, 9, 10] zw1 zw0 zw1 zw5 zw3 rfl rfl
 have hge : s.chans.length ≤ k := by simpa using g
 rw [List.take_of_length_le z91] at hL4
 refine aO (.joinO [0, 1] (Gs := [[_], _]) z136 rfl (G := jQ c4 L4) (.of_eq (by simp [jQ, iK]))) ?_
 generalize hy : (⟨s.places, s.status, L0, L1, L2, L3, L4, s.said, s.fault, a, b, c0, c1, c2, c3, c4, d⟩ : StateH) = y
 refine aO (.joinO [5, 6, 4, 3, 2, 1, 0, 7] (Gs := [[_], [_], _, _, _, _, _, [_]]) z110 rfl (G := aK y) (by subst hy; exact .of_eq z96)) ?_
 exact bG [0] ⟨y, by rw [← hy]; rfl, by rw [← hy]; simp [StateH.pure, hL0, hL1, hL2, hL3, hL4], rfl⟩ z144 rfl ⟨rfl, trivial⟩ (fun _ => rfl)
theorem lD0 (x y : Waiter) (w : World) : (binOp .neq 184 (.agg (bV x).toArray) (.agg (bV y).toArray)).run Tryz.prog w = .ok (.bool (decide (x ≠ y))) w := by
 have h := cE0 (P := Tryz.prog) (t := 184) (it := 3) (xs := [x.t, x.n]) (ys := [y.t, y.n]) z102 z102 z102 rfl z102 w
 have e : ([x.t, x.n] ≠ [y.t, y.n]) ↔ x ≠ y := by cases x; cases y; simp
 rw [show decide (x ≠ y) = decide ([x.t, x.n] ≠ [y.t, y.n]) from by simp only [e]]
 exact h
theorem dA0 (i j : Sl) (xs ys : List Waiter) (w : World) (h : At w [slo i bV 2 xs, slo j bV 2 ys]) (hb : xs.length ≤ 4294967296) (hb2 : ys.length ≤ 4294967296) :
   Calls Tryz.prog 150 #[i.val xs.length, j.val ys.length] w (Ret w fun v L => v = .bool (decide (xs = ys)) ∧ L = []) := by
 refine cB Tryz.func150 rfl aA w _ rfl _ rfl _ h ⟨rfl, rfl, rfl, rfl, trivial⟩ _ _ (by decide) ?_
 refine CaseB.mk (fun h => ?_) (fun h => ?_)
 · have hne : xs ≠ ys := by rintro rfl; simp at h
   refine aH ⟨?_, rfl⟩ (fun _ => rfl)
   simp [hne]
 · have hl : xs.length = ys.length := by simp at h; omega
   refine LoopW.mk ⟨{ k : Nat // k ≤ xs.length ∧ xs.take k = ys.take k },
     fun p => .mk [(0, .v (i.val xs.length)), (1, .v (j.val ys.length)), (12, .v (.int .i64 xs.length)), (13, .v (.int .i64 p.1))] 0 0 [] [] [slo i bV 2 xs, slo j bV 2 ys],
     fun p => xs.length - p.1, ⟨0, Nat.zero_le _, rfl⟩, ?_, ?_⟩
   · exact aC [0, 1] zw2 zw0 zw2 zw5 zw4 rfl rfl
   · rintro ⟨k, hk, he⟩
     refine CaseB.mk (fun h => ?_) (fun h => ?_)
     · have hlt : k < xs.length := by simpa using h
       have hlt2 : k < ys.length := by omega
       obtain ⟨q1, q2⟩ := eO he hlt hlt2
       refine aF aA z102 z102 z102 200 [] [0, 1] [_, _] trivial trivial ⟨rfl, rfl, trivial⟩ rfl ?_
       refine bO (ti := aU tab) cH aA rfl rfl rfl rfl rfl ⟨rfl, rfl⟩ z35 k rfl z43 (fun ad => ?_)
       refine bO (ti := aU tab) cH aA rfl rfl rfl rfl rfl ⟨rfl, rfl⟩ z35 k rfl z43 (fun ad2 => ?_)
       refine kT rfl rfl rfl ⟨rfl, rfl⟩ (.bool (decide (xs[k] ≠ ys[k]))) (fun w => (run_eqGuard_agg w _ _ _ _ _ _ z102)) (fun w => (lD0 _ _ w)) ?_
       refine CaseB.mk (fun h => ?_) (fun h => ?_)
       · have hne := q2 z95
         refine aH ⟨?_, rfl⟩ (fun _ => rfl)
         simp [hne]
       · have heq := q1 z95
         have hw := lK k _ hlt hb
         refine ⟨⟨k + 1, by omega, heq⟩, ?_, by simp; omega⟩
         exact aC [0, 1] zw1 zw0 zw1 zw5 zw3 rfl rfl
     · have hge : xs.length ≤ k := by simpa using h
       have heq : xs = ys := by rw [List.take_of_length_le hge, List.take_of_length_le (by omega)] at he; exact he
       refine aH ⟨?_, rfl⟩ (fun _ => rfl)
       simp [heq]
theorem hZ0 (m k : Sem) (q q2 : Sl) (w : World) (h : At w [slo q bV 2 m.queue, slo q2 bV 2 k.queue]) (hb : m.queue.length ≤ 4294967296) (hb2 : k.queue.length ≤ 4294967296) :
   Calls Tryz.prog 86 #[oC m q, oC k q2] w (Ret w fun v L => v = .bool (decide (m = k)) ∧ L = []) := by
 have hx : m = k ↔ m.free = k.free ∧ m.limit = k.limit ∧ m.queue = k.queue := by cases m; cases k; simp
 refine cB Tryz.func86 rfl aA w _ rfl _ rfl _ h ⟨rfl, rfl, rfl, rfl, trivial⟩ _ _ (by decide) ?_
 refine CaseB.mk (fun h0 => ?_) (fun h0 => ?_)
 rotate_left
 · refine aH ⟨?_, rfl⟩ (fun _ => rfl)
   simp at h0
   simp [hx, h0]
 refine CaseB.mk (fun h1 => ?_) (fun h1 => ?_)
 rotate_left
 · refine aH ⟨?_, rfl⟩ (fun _ => rfl)
   simp at h1
   simp [hx, h1]
 refine aB _ cl150 rfl rfl rfl rfl ⟨rfl, rfl⟩ (fun A w hW => dA0 q q2 m.queue k.queue w ⟨z34, z34, trivial⟩ hb hb2) ?_
 rintro v L ⟨rfl, rfl⟩
 refine aH ⟨?_, rfl⟩ (fun _ => rfl)
 simp at h0 h1
 simp [hx, h0, h1]
theorem eM0 (m k : Once) (q q2 : Sl) (w : World) (h : At w [slo q aJ 1 m.waits, slo q2 aJ 1 k.waits]) (hb : m.waits.length ≤ 4294967296) (hb2 : k.waits.length ≤ 4294967296) :
   Calls Tryz.prog 88 #[jX m q, jX k q2] w (Ret w fun v L => v = .bool (decide (m = k)) ∧ L = []) := by
 have hx : m = k ↔ m.state = k.state ∧ m.owner = k.owner ∧ m.value = k.value ∧ m.waits = k.waits := by cases m; cases k; simp
 refine cB Tryz.func88 rfl aA w _ rfl _ rfl _ h ⟨rfl, rfl, rfl, rfl, trivial⟩ _ _ (by decide) ?_
 refine CaseB.mk (fun h0 => ?_) (fun h0 => ?_)
 rotate_left
 · refine aH ⟨?_, rfl⟩ (fun _ => rfl)
   simp at h0
   simp [hx, h0]
 refine CaseB.mk (fun h1 => ?_) (fun h1 => ?_)
 rotate_left
 · refine aH ⟨?_, rfl⟩ (fun _ => rfl)
   simp at h1
   simp [hx, h1]
 refine CaseB.mk (fun h2 => ?_) (fun h2 => ?_)
 rotate_left
 · refine aH ⟨?_, rfl⟩ (fun _ => rfl)
   simp at h2
   simp [hx, h2]
 refine aB _ bV0 rfl rfl rfl rfl ⟨rfl, rfl⟩ (fun A w hW => lL q q2 m.waits k.waits w ⟨z34, z34, trivial⟩ hb hb2) ?_
 rintro v L ⟨rfl, rfl⟩
 refine aH ⟨?_, rfl⟩ (fun _ => rfl)
 simp at h0 h1 h2
 simp [hx, h0, h1, h2]
theorem dB0 (m k : Group) (q q2 : Sl) (w : World) (h : At w [slo q aJ 1 m.waits, slo q2 aJ 1 k.waits]) (hb : m.waits.length ≤ 4294967296) (hb2 : k.waits.length ≤ 4294967296) :
   Calls Tryz.prog 90 #[kN m q, kN k q2] w (Ret w fun v L => v = .bool (decide (m = k)) ∧ L = []) := by
 have hx : m = k ↔ m.count = k.count ∧ m.waits = k.waits := by cases m; cases k; simp
 refine cB Tryz.func90 rfl aA w _ rfl _ rfl _ h ⟨rfl, rfl, rfl, rfl, trivial⟩ _ _ (by decide) ?_
 refine CaseB.mk (fun h0 => ?_) (fun h0 => ?_)
 rotate_left
 · refine aH ⟨?_, rfl⟩ (fun _ => rfl)
   simp at h0
   simp [hx, h0]
 refine aB _ bV0 rfl rfl rfl rfl ⟨rfl, rfl⟩ (fun A w hW => lL q q2 m.waits k.waits w ⟨z34, z34, trivial⟩ hb hb2) ?_
 rintro v L ⟨rfl, rfl⟩
 refine aH ⟨?_, rfl⟩ (fun _ => rfl)
 simp at h0
 simp [hx, h0]
theorem yC (m k : Barrier) (q q2 : Sl) (w : World) (h : At w [slo q aJ 1 m.waits, slo q2 aJ 1 k.waits]) (hb : m.waits.length ≤ 4294967296) (hb2 : k.waits.length ≤ 4294967296) :
   Calls Tryz.prog 83 #[jE m q, jE k q2] w (Ret w fun v L => v = .bool (decide (m = k)) ∧ L = []) := by
 have hx : m = k ↔ m.parties = k.parties ∧ m.round = k.round ∧ m.waits = k.waits := by cases m; cases k; simp
 refine cB Tryz.func83 rfl aA w _ rfl _ rfl _ h ⟨rfl, rfl, rfl, rfl, trivial⟩ _ _ (by decide) ?_
 refine CaseB.mk (fun h0 => ?_) (fun h0 => ?_)
 rotate_left
 · refine aH ⟨?_, rfl⟩ (fun _ => rfl)
   simp at h0
   simp [hx, h0]
 refine CaseB.mk (fun h1 => ?_) (fun h1 => ?_)
 rotate_left
 · refine aH ⟨?_, rfl⟩ (fun _ => rfl)
   simp at h1
   simp [hx, h1]
 refine aB _ bV0 rfl rfl rfl rfl ⟨rfl, rfl⟩ (fun A w hW => lL q q2 m.waits k.waits w ⟨z34, z34, trivial⟩ hb hb2) ?_
 rintro v L ⟨rfl, rfl⟩
 refine aH ⟨?_, rfl⟩ (fun _ => rfl)
 simp at h0 h1
 simp [hx, h0, h1]
theorem bE0 (p : Prog) (s : State) (hs : s.small20) : ∃ A : List Int, A.length ≤ 1048576 ∧ ∀ xs : List Int, (Fits p s → xs = cG s) → (¬ Fits p s → xs = []) → xs = A := by
 by_cases h : Fits p s
 · refine ⟨cG s, ?_, fun xs h1 _ => h1 h⟩
   have h2 : s.status.length ≤ 1048576 := hs.2.1
   rw [cG]
   split
   · exact Nat.le_trans (mY _) h2
   · simp
 · exact ⟨[], by simp, fun xs _ h2 => h2 h⟩
theorem iA0 {p : Prog} {s : State} {t : Int} (ft : Fits p s) (h : t ∈ cG s) (hl : (doM p s t).said.length ≤ 64) : (doM p s t).small20 := by
 by_cases hw : sD p s t
 · obtain ⟨k, ops, a, st, op, rfl, r⟩ := rdy ft h
   rw [sD, r.at_] at hw
   obtain ⟨k7, hw⟩ := hw
   have e : doM p s (k : Int) = bE (setBarrier s op ⟨0, 0, []⟩) k 1 := by
     simp only [doM, r.at_, dD, k7, hJ, hw]
     simp
   rw [e]
   obtain ⟨b0, b1, b2, b3, b4, b5, b6, b7⟩ := ft.small
   refine ⟨b0, by simpa [bE, setBarrier] using b1, b2, b3, b4, ⟨by simpa [bE, setBarrier] using b5.1, fun x hx => ?_⟩, b6, b7⟩
   rcases List.mem_or_eq_of_mem_set hx with hx | rfl
   · exact b5.2 x hx
   · simp [Barrier.small20]
 · exact (zJ ft h hl hw).small
def pC0 (p : Prog) (s : State) (t : Int) (v : Value) (L : List Fct) : Prop := ∃ (y : StateH) (b : Bool), v = .tuple #[aM y, .bool b] ∧ (b = true ↔ StepOk p s t) ∧ (b = true → y.pure = doM p s t) ∧ (b = false → y.pure = State.zero) ∧ L = [fN (aK y)]
theorem yD (p : ProgH) (s : StateH) (t : Int) (w : World) (h : At w [fR (aY p), fR (aK s)]) (hp : p.pure.small20) (hs : s.pure.small20) :
   Calls Tryz.prog 29 #[dW p, aM s, .int .i64 t] w (Ret w (pC0 p.pure s.pure t)) := by
 have hb : s.status.length ≤ 1048576 := hs.2.1
 obtain ⟨A, hA, one⟩ := bE0 p.pure s.pure hs
 refine gQ Tryz.func29 rfl aA w _ rfl _ rfl _ h ⟨rfl, rfl, rfl, rfl, trivial⟩ _ _ _ (by decide) ?_
 refine aB _ cl79 rfl rfl rfl rfl ⟨rfl, rfl⟩ (fun A w hW => wA p s w ⟨hW.get 0 rfl (.refl _), hW.get 1 rfl (.refl _), trivial⟩ hp hs) ?_
 rintro v L ⟨yr, xs, rfl, h1, h2, rfl⟩
 have hxl : xs.length ≤ 1048576 := by rw [one xs h1 h2]; exact hA
 refine aB _ uG rfl rfl rfl rfl ⟨rfl, rfl⟩ (fun A w hW => kW yr xs t w ⟨z34, trivial⟩ (by omega)) ?_
 rintro v L ⟨rfl, rfl⟩
 apply CaseB.mk <;> intro g
 · have hn : t ∉ xs := fun hm => by have := (eR xs t).2 hm; have g' := of_decide_eq_true g; omega
   have n : ¬ StepOk p.pure s.pure t := fun e => hn (by rw [h1 e.1]; exact e.2.1)
   refine aO (.joinO [90] (Gs := [_]) ⟨.inr ⟨Nat.le_of_ble_eq_true rfl, dU⟩, trivial⟩ rfl (G := aK StateH.zero) (.of_eq (by simp))) ?_
   refine aO (Shift.pack (G := aK StateH.zero) (fun g hg => lB 0 rfl hg)) ?_
   exact bG [0] ⟨StateH.zero, false, rfl, tno n, fun e => z105, fun _ => rfl, rfl⟩ z144 rfl ⟨rfl, trivial⟩ (fun _ => rfl)
 have hmx : t ∈ xs := (eR xs t).1 (by have g' := of_decide_eq_false g; omega)
 have ft : Fits p.pure s.pure := Classical.byContradiction fun n => by rw [h2 n] at hmx; cases hmx
 have hm : t ∈ cG s.pure := by rw [← h1 ft]; exact hmx
 obtain ⟨_, k, _, rfl, _⟩ := xJ hm
 refine pW { y : StateH // y.pure = doM p.pure s.pure k } (fun y => .mk [(3, .p 0 0), (6, .p 2 0), (8, .p 3 0)] 4 0 [(0, 26, 5), (2, 35, 9), (3, 35, 9)] [((0, 0), .v (p.h0.val p.sems.length)), ((0, 1), .v (p.h1.val p.groups.length)), ((0, 2), .v (p.h2.val p.barriers.length)), ((0, 3), .v (p.h3.val p.rooms.length)), ((0, 4), .v (p.h4.val p.threads.length)), ((3, 0), .v (y.1.h0.val y.1.places.length)), ((3, 1), .v (y.1.h1.val y.1.status.length)), ((3, 2), .v (y.1.h2.val y.1.sems.length)), ((3, 3), .v (y.1.h3.val y.1.onces.length)), ((3, 4), .v (y.1.h4.val y.1.groups.length)), ((3, 5), .v (y.1.h5.val y.1.barriers.length)), ((3, 6), .v (y.1.h6.val y.1.chans.length)), ((3, 7), .v (y.1.h7.val y.1.said.length)), ((3, 8), .v (.int .i64 y.1.fault))] [fN (aK y.1), fR (aY p)]) ?_ ?_
 · refine aF aA z102 z102 z102 200 [((0, 0), .v (p.h0.val p.sems.length)), ((0, 1), .v (p.h1.val p.groups.length)), ((0, 2), .v (p.h2.val p.barriers.length)), ((0, 3), .v (p.h3.val p.rooms.length)), ((0, 4), .v (p.h4.val p.threads.length)), ((1, 0), .v (s.h0.val s.places.length)), ((1, 1), .v (s.h1.val s.status.length)), ((1, 2), .v (s.h2.val s.sems.length)), ((1, 3), .v (s.h3.val s.onces.length)), ((1, 4), .v (s.h4.val s.groups.length)), ((1, 5), .v (s.h5.val s.barriers.length)), ((1, 6), .v (s.h6.val s.chans.length)), ((1, 7), .v (s.h7.val s.said.length)), ((1, 8), .v (.int .i64 s.fault))] [] [] z106 z111 trivial rfl ?_
   refine BothW.mk ?_ ?_
   all_goals
     refine bN _ cl81 rfl rfl rfl rfl ⟨rfl, rfl⟩ (fun A w hW => lC0 s w ⟨hW.get 2 rfl (.refl _), trivial⟩ hs) ?_
     rintro v L ⟨y, rfl, hy, rfl⟩
   refine BothW.mk ?_ ?_
   all_goals
     conv => whnf
     refine mI0 (Shift.splitO 0 (L := qH y) (G := aK y) (G' := gW y) rfl (nP y)) z100 ?_
     refine lI _ [0, 1, 2, 3, 4, 5, 6, 7, 8] (G := [_, _, _, _, _, _, _, _, _]) cl80 rfl rfl rfl rfl ⟨rfl, rfl⟩ z134 z119 z100 (fun A w hW => (pB0 p y k (by rw [hy]; exact ft) (by rw [hy]; exact hm) w (hW.atG [0, 1, 2, 3, 4, 5, 6, 7, 8] (G := [_, _, _, _, _, _, _, _, _]) z134 rfl z119 [10] (Fo := [_]) z148 rfl))) ?_
     rintro v L ⟨y2, rfl, hy2, rfl⟩
     rw [hy] at hy2
     refine ⟨⟨y2, hy2⟩, ?_⟩
     exact aC [0, 2] zw2 zw0 zw2 zw5 zw4 rfl rfl
 rintro ⟨y2, hy2⟩
 simp only
 apply CaseB.mk <;> intro g
 · have hl : ¬ (doM p.pure s.pure k).said.length ≤ 64 := by
     have g' := of_decide_eq_true g
     rw [← hy2]
     show ¬ y2.said.length ≤ 64
     omega
   have n : ¬ StepOk p.pure s.pure k := fun e => hl e.2.2.1
   refine aO (.joinO [90] (Gs := [_]) ⟨.inr ⟨Nat.le_of_ble_eq_true rfl, dU⟩, trivial⟩ rfl (G := aK StateH.zero) (.of_eq (by simp))) ?_
   refine aO (Shift.pack (G := aK StateH.zero) (fun g hg => lB 0 rfl hg)) ?_
   exact bG [0] ⟨StateH.zero, false, rfl, tno n, fun e => z105, fun _ => rfl, rfl⟩ z144 rfl ⟨rfl, trivial⟩ (fun _ => rfl)
 have hl : (doM p.pure s.pure k).said.length ≤ 64 := by
   have g' := of_decide_eq_false g
   rw [← hy2]
   show y2.said.length ≤ 64
   omega
 refine aB _ cl82 rfl rfl rfl rfl ⟨rfl, rfl⟩ (fun A w hW => tI p y2 w ⟨hW.get 1 rfl (.refl _), hW.get 0 rfl (vN _), trivial⟩ hp (by rw [hy2]; exact iA0 ft hm hl)) ?_
 rintro v L ⟨b, rfl, hbb, rfl⟩
 rw [hy2] at hbb
 apply CaseB.mk <;> intro g
 · have n : ¬ StepOk p.pure s.pure k := fun e => by rw [hbb.2 e.2.2.2] at g; cases g
   refine aO (.joinO [90] (Gs := [_]) ⟨.inr ⟨Nat.le_of_ble_eq_true rfl, dU⟩, trivial⟩ rfl (G := aK StateH.zero) (.of_eq (by simp))) ?_
   refine aO (Shift.pack (G := aK StateH.zero) (fun g hg => lB 0 rfl hg)) ?_
   exact bG [0] ⟨StateH.zero, false, rfl, tno n, fun e => z105, fun _ => rfl, rfl⟩ z144 rfl ⟨rfl, trivial⟩ (fun _ => rfl)
 have hok : StepOk p.pure s.pure k := ⟨ft, hm, hl, hbb.1 z98⟩
 exact bG [0] ⟨y2, true, rfl, jS hok, fun _ => hy2, fun e => z105, rfl⟩ z144 rfl ⟨rfl, trivial⟩ (fun _ => rfl)
theorem Shift.packK {Zs G : List Fct} (k : Nat) (hk : Zs[k]? = some (fO G)) : Shift Zs (fN G :: Zs.eraseIdx k) := by
 intro E A n B M w h
 have hsub := h.sub (kK Zs k)
 have hdj := eX h.dj hk
 have hfk := h.fct _ (List.mem_of_getElem? hk)
 have key : ∀ g ∈ G, Rd (fO G) (Fct.fresh g) := fun g hg => tS (.ofO ⟨g, hg, .refl _⟩)
 have hP : ∀ g' ∈ G.map Fct.fresh, g'.P w := fun g' hg' => by
   obtain ⟨g, hg, rfl⟩ := List.mem_map.1 hg'
   exact (key g hg).p w hfk.1
 have hfoot : ∀ b, (fN G).foot b → (fO G).foot b := by
   rintro b ⟨g', hg', hb⟩
   obtain ⟨g, hg, rfl⟩ := List.mem_map.1 hg'
   exact (key g hg).foot b hb
 refine ⟨h.key, h.inj, h.mem, h.a0, h.n0, h.ext, fun f hf => ?_, ?_⟩
 · rcases List.mem_cons.1 hf with rfl | hf
   · exact ⟨hP, fun b hb => hfk.2.1 b (hfoot b hb), fun _ b hb => hfk.2.2 rfl b (hfoot b hb)⟩
   · exact hsub.fct f hf
 · rw [List.pairwise_cons]
   exact ⟨fun f hf ho b hb hb' => hdj f hf (.inl rfl) b (hfoot b hb) hb', hsub.dj⟩
def RunAS (A : Option (State × List Int)) (v : Value) (L : List Fct) : Prop := ∃ (y : StateH) (z : Sl) (tr : List Int) (b : Bool), v = .tuple #[kR0 y z tr.length, .bool b] ∧ (b = true ↔ A.isSome = true) ∧ (b = true → A = some (y.pure, tr)) ∧ (b = false → y.pure = State.zero ∧ tr = []) ∧ L = [fN (aK y), own z 3 aJ 1 tr]
theorem eN0 (s : State) (h : s.small20) : (cG s).length ≤ 1048576 := by
 have : (cG s).length ≤ s.status.length := by
   rw [cG]
   split
   · exact mY _
   · exact Nat.zero_le _
 exact Nat.le_trans this h.2.1
theorem yE (p : ProgH) (q : Sl) (tc : List Int) (w : World) (h : At w [fR (aY p), slo q aJ 1 tc]) (hp : p.pure.small20) :
   Calls Tryz.prog 11 #[dW p, q.val tc.length] w (Ret w (RunAS (runP p.pure tc))) := by
 refine cB Tryz.func11 rfl aA w _ rfl _ rfl _ h ⟨rfl, rfl, rfl, rfl, trivial⟩ _ _ (by decide) ?_
 refine aB _ cl46 rfl rfl rfl rfl ⟨rfl, rfl⟩ (fun A w hW => aZ0 p w ⟨hW.get 0 rfl (.refl _), trivial⟩ (xO hp)) ?_
 rintro v L ⟨y0, b0, rfl, i1, i2, i3, rfl⟩
 apply CaseB.mk <;> intro g
 · have e : b0 = false := by simpa using g
   have n : runP p.pure tc = none := by
     rw [runP, if_neg]
     rintro ⟨ok, _⟩
     rw [i1.2 ok] at e; cases e
   rw [n]
   refine aO (.joinO [90] (Gs := [_]) ⟨.inr ⟨Nat.le_of_ble_eq_true rfl, dU⟩, trivial⟩ rfl (G := aK StateH.zero) (.of_eq (by simp))) ?_
   refine aO (Shift.packK (G := aK StateH.zero) 0 rfl) ?_
   exact bG [0, 99] ⟨StateH.zero, hU, [], false, rfl, by simp, fun e => z105, fun _ => ⟨rfl, rfl⟩, rfl⟩ z126 rfl ⟨rfl, rfl, trivial⟩ (fun _ => rfl)
 have e : b0 = true := by simpa using g
 have ok := i1.1 e
 have hst := i2 e
 apply CaseB.mk <;> intro g
 · have n : runP p.pure tc = none := by
     rw [runP, if_neg]
     rintro ⟨_, h⟩
     have g' := of_decide_eq_true g
     omega
   rw [n]
   refine aO (.joinO [90] (Gs := [_]) ⟨.inr ⟨Nat.le_of_ble_eq_true rfl, dU⟩, trivial⟩ rfl (G := aK StateH.zero) (.of_eq (by simp))) ?_
   refine aO (Shift.packK (G := aK StateH.zero) 0 rfl) ?_
   exact bG [0, 99] ⟨StateH.zero, hU, [], false, rfl, by simp, fun e => z105, fun _ => ⟨rfl, rfl⟩, rfl⟩ z126 rfl ⟨rfl, rfl, trivial⟩ (fun _ => rfl)
 have hl : tc.length ≤ 100 := by have g' := of_decide_eq_false g; omega
 refine AllSl.mk fun z0 => ?_
 obtain ⟨ANS, hANS⟩ : ∃ ANS, ANS = runP p.pure tc := ⟨_, rfl⟩
 have hA2 : ANS = runC p.pure (start p.pure) [] tc := by rw [hANS, runP, if_pos ⟨ok, hl⟩]
 rw [← hANS]
 refine LoopW.mk ⟨{ u : Nat × StateH × Sl × List Int // u.1 ≤ tc.length ∧ u.2.2.2.length ≤ u.1 ∧ runC p.pure u.2.1.pure u.2.2.2 (tc.drop u.1) = ANS ∧ u.2.1.pure.small20 },
   fun u => .mk [(1, .v (q.val tc.length)), (2, .p 0 0), (4, .p 1 0), (6, .p 2 0), (8, .v (u.1.2.2.1.val u.1.2.2.2.length)), (9, .v (.int .i64 (u.1.1 : Int)))] 3 0 [(0, 26, 5), (1, 37, 10), (2, 35, 9)] [((0, 0), .v (p.h0.val p.sems.length)), ((0, 1), .v (p.h1.val p.groups.length)), ((0, 2), .v (p.h2.val p.barriers.length)), ((0, 3), .v (p.h3.val p.rooms.length)), ((0, 4), .v (p.h4.val p.threads.length)), ((2, 0), .v (u.1.2.1.h0.val u.1.2.1.places.length)), ((2, 1), .v (u.1.2.1.h1.val u.1.2.1.status.length)), ((2, 2), .v (u.1.2.1.h2.val u.1.2.1.sems.length)), ((2, 3), .v (u.1.2.1.h3.val u.1.2.1.onces.length)), ((2, 4), .v (u.1.2.1.h4.val u.1.2.1.groups.length)), ((2, 5), .v (u.1.2.1.h5.val u.1.2.1.barriers.length)), ((2, 6), .v (u.1.2.1.h6.val u.1.2.1.chans.length)), ((2, 7), .v (u.1.2.1.h7.val u.1.2.1.said.length)), ((2, 8), .v (.int .i64 u.1.2.1.fault))] [fN (aK u.1.2.1), own u.1.2.2.1 3 aJ 1 u.1.2.2.2, fR (aY p), slo q aJ 1 tc],
   fun u => tc.length - u.1.1, ⟨(0, y0, z0, []), Nat.zero_le _, Nat.le_refl _, by rw [hst, hA2]; rfl, by rw [hst]; exact lR ok⟩, ?_, ?_⟩
 · refine aP (Shift.packK (G := aK y0) 1 rfl) ?_
   exact aC [0, 1, 2, 3] zw2 zw0 zw2 zw5 zw4 rfl rfl
 rintro ⟨⟨i, y, z, tr⟩, hi, htl, hy, hys⟩
 simp only at hi htl hy hys ⊢
 have hb : y.status.length ≤ 1048576 := hys.2.1
 have hrl := eN0 _ hys
 apply CaseB.mk <;> intro g
 · have hlt : i < tc.length := by simpa using g
   have hw := bD i _ hlt (by omega)
   have hdr : tc.drop i = tc[i] :: tc.drop (i + 1) := List.drop_eq_getElem_cons hlt
   rw [hdr, runC] at hy
   refine aB _ cl47 rfl rfl rfl rfl ⟨rfl, rfl⟩ (fun A w hW => cW0 y w ⟨hW.get 0 rfl (vN _), trivial⟩ hb) ?_
   rintro v L ⟨yr, rfl, rfl⟩
   refine aG aE aA rfl rfl rfl rfl rfl ⟨rfl, rfl⟩ z35 i rfl z43 (fun ad => ?_)
   apply CaseB.mk <;> intro g
   · have h0 : tc[i] < 0 := of_decide_eq_true g
     rw [if_pos h0] at hy
     rw [← hy]
     refine aO (.joinO [90] (Gs := [_]) ⟨.inr ⟨Nat.le_of_ble_eq_true rfl, dU⟩, trivial⟩ rfl (G := aK StateH.zero) (.of_eq (by simp))) ?_
     refine aO (Shift.packK (G := aK StateH.zero) 0 rfl) ?_
     exact bG [0, 99] ⟨StateH.zero, hU, [], false, rfl, by simp, fun e => z105, fun _ => ⟨rfl, rfl⟩, rfl⟩ z126 rfl ⟨rfl, rfl, trivial⟩ (fun _ => rfl)
   have h0 : ¬ tc[i] < 0 := of_decide_eq_false g
   rw [if_neg h0] at hy
   apply CaseB.mk <;> intro g
   · have hr : cG y.pure = [] := List.eq_nil_of_length_eq_zero (by have g' : ((cG y.pure).length : Int) = 0 := z98; omega)
     rw [if_pos hr] at hy
     refine ⟨⟨(i + 1, y, z, tr), hlt, Nat.le_succ_of_le htl, hy, hys⟩, ?_, by simp only; omega⟩
     exact aC [1, 2, 3, 4] zw1 zw0 zw1 zw5 zw3 rfl rfl
   have hr : ¬ cG y.pure = [] := fun e => by rw [e] at g; simp at g
   have hr0 : 0 < (cG y.pure).length := List.length_pos_iff.2 hr
   rw [if_neg hr] at hy
   refine aG aE aA rfl rfl rfl rfl rfl ⟨rfl, rfl⟩ z35 i rfl z43 (fun ad2 => ?_)
   obtain ⟨j, hj⟩ : ∃ j : Nat, (j : Int) = tc[i] % ((cG y.pure).length : Int) := ⟨(tc[i] % ((cG y.pure).length : Int)).toNat, Int.toNat_of_nonneg (Int.emod_nonneg _ (by omega))⟩
   have hjl : j < (cG y.pure).length := by have := Int.emod_lt_of_pos tc[i] (show (0 : Int) < (cG y.pure).length by omega); omega
   refine cM rfl rfl rfl ⟨rfl, rfl⟩ (.int .i64 (j : Int)) (fun w => dM w) (fun w => oT (by omega) (by rw [hj]; exact (Int.tmod_eq_emod_of_nonneg (by omega)).symm) w) ?_
   refine aG aE aA rfl rfl rfl rfl rfl ⟨rfl, rfl⟩ z35 j rfl z43 (fun ad3 => ?_)
   have hpk : qJ y.pure tc[i] = (cG y.pure)[j] := by
     have ej : (tc[i] % ((cG y.pure).length : Int)).toNat = j := by omega
     rw [qJ, ej, List.getD_eq_getElem?_getD, List.getElem?_eq_getElem hjl]; rfl
   obtain ⟨t, ht⟩ : ∃ t, t = (cG y.pure)[j] := ⟨_, rfl⟩
   rw [hpk, ← ht] at hy
   rw [← ht]
   refine aB _ cl29 rfl rfl rfl rfl ⟨rfl, rfl⟩ (fun A w hW => yD p y t w ⟨hW.get 3 rfl (.refl _), hW.get 1 rfl (vN _), trivial⟩ hp hys) ?_
   rintro v L ⟨y3, b2, rfl, j1, j2, j3, rfl⟩
   apply CaseB.mk <;> intro g
   · have e : b2 = false := by simpa using g
     have hn : ¬ StepOk p.pure y.pure t := fun h => by rw [j1.2 h] at e; cases e
     rw [if_neg hn] at hy
     rw [← hy]
     refine aO (.joinO [90] (Gs := [_]) ⟨.inr ⟨Nat.le_of_ble_eq_true rfl, dU⟩, trivial⟩ rfl (G := aK StateH.zero) (.of_eq (by simp))) ?_
     refine aO (Shift.packK (G := aK StateH.zero) 0 rfl) ?_
     exact bG [0, 99] ⟨StateH.zero, hU, [], false, rfl, by simp, fun e => z105, fun _ => ⟨rfl, rfl⟩, rfl⟩ z126 rfl ⟨rfl, rfl, trivial⟩ (fun _ => rfl)
   have e2 : b2 = true := by simpa using g
   have hok := j1.1 e2
   have hy3 := j2 e2
   rw [if_pos hok] at hy
   refine AllSl.mk fun zk => ?_
   refine bQ aE 4 aA (xs := tr) (ys := [t]) rfl rfl rfl rfl rfl rfl rfl rfl rfl (by decide) ⟨rfl, rfl⟩ rfl z35 z43 z43 (fun z2 => ?_)
   refine ⟨⟨(i + 1, y3, z2, tr ++ [t]), hlt, by simp only [List.length_append, List.length_singleton]; omega, by simp only [hy3]; exact hy, by rw [hy3]; exact hok.2.2.2.small⟩, ?_, by simp only; omega⟩
   exact aC [2, 0, 5, 6] zw1 zw0 zw1 zw5 zw3 rfl rfl
 have hge : tc.length ≤ i := by simpa using g
 rw [List.drop_eq_nil_of_le hge] at hy
 rw [← hy]
 exact bG [0, 1] ⟨y, z, tr, true, rfl, by simp [runC], fun _ => rfl, fun e => z105, rfl⟩ z137 rfl ⟨rfl, rfl, trivial⟩ (fun _ => rfl)
theorem vO {m : Chan} (h : m.small20) : m.small := ⟨Nat.le_trans h.1 (by decide), Nat.le_trans h.2.1 (by decide), Nat.le_trans h.2.2 (by decide)⟩
theorem lE0 (h h2 : Sl) (xs ys : List SemH) (w : World) (hh : At w [fR (jF h xs), fR (jF h2 ys)]) (hl : xs.length ≤ 1048576) (hb : ∀ x ∈ xs, Sem.small20 x.m) (hb2 : ∀ x ∈ ys, Sem.small20 x.m) :
   Calls Tryz.prog 85 #[h.val xs.length, h2.val ys.length, .func (.func 86) #[] #[]] w (Ret w fun v L => v = .bool (decide (xs.map (·.m) = ys.map (·.m))) ∧ L = []) := by
 refine gQ Tryz.func85 rfl aA w _ rfl _ rfl _ hh ⟨rfl, rfl, rfl, rfl, trivial⟩ _ _ _ (by decide) ?_
 apply CaseB.mk <;> intro g
 · have hne : xs.map (·.m) ≠ ys.map (·.m) := fun e => by
     have := congrArg List.length e
     simp at this g
     omega
   refine aH ⟨?_, rfl⟩ (fun _ => rfl)
   simp [hne]
 · have hll : xs.length = ys.length := by simp at g; omega
   refine LoopW.mk ⟨{ k : Nat // k ≤ xs.length ∧ (xs.map (·.m)).take k = (ys.map (·.m)).take k },
     fun p => .mk [(1, .v (h2.val ys.length)), (2, .v (.func (.func 86) #[] #[])), (15, .v (h.val xs.length)), (16, .v (.int .i64 (xs.length : Int))), (17, .v (.int .i64 p.1))] 0 0 [] [] [fR (jF h xs), fR (jF h2 ys)],
     fun p => xs.length - p.1, ⟨0, Nat.zero_le _, rfl⟩, ?_, ?_⟩
   · exact aC [0, 1] zw2 zw0 zw2 zw5 zw4 rfl rfl
   · rintro ⟨k, hk, he⟩
     refine CaseB.mk (fun g2 => ?_) (fun g2 => ?_)
     · have hlt : k < xs.length := by simpa using g2
       have hlt2 : k < ys.length := by omega
       obtain ⟨q1, q2⟩ := eO he (by simpa using hlt) (by simpa using hlt2)
       simp only [List.getElem_map] at q1 q2
       refine aG cZ aA rfl rfl rfl rfl rfl ⟨rfl, rfl⟩ (aL 0 rfl (.ofR aX)) k rfl z43 (fun ad => ?_)
       refine aG cZ aA rfl rfl rfl rfl rfl ⟨rfl, rfl⟩ (aL 1 rfl (.ofR aX)) k rfl z43 (fun ad2 => ?_)
       refine iJ _ cl86 rfl rfl rfl rfl ⟨rfl, rfl⟩ (fun A w hW => (hZ0 _ _ _ _ w ⟨hW.get 0 rfl (.ofR (iV h xs k hlt)), hW.get 1 rfl (.ofR (iV h2 ys k hlt2)), trivial⟩ (Nat.le_trans (hb _ (List.getElem_mem hlt)) (by decide)) (Nat.le_trans (hb2 _ (List.getElem_mem hlt2)) (by decide)))) ?_
       rintro v L ⟨rfl, rfl⟩
       refine CaseB.mk (fun g3 => ?_) (fun g3 => ?_)
       · have hne := q2 z94
         refine aH ⟨?_, rfl⟩ (fun _ => rfl)
         simp [hne]
       · have heq := q1 z94
         have hw := bD k _ hlt (by omega)
         refine ⟨⟨k + 1, by omega, heq⟩, ?_, by simp; omega⟩
         exact aC [0, 1] zw1 zw0 zw1 zw5 zw3 rfl rfl
     · have hge : xs.length ≤ k := by simpa using g2
       have heq : xs.map (·.m) = ys.map (·.m) := by rw [List.take_of_length_le z91, List.take_of_length_le z101] at he; exact he
       refine aH ⟨?_, rfl⟩ (fun _ => rfl)
       simp [heq]
theorem iB0 (h h2 : Sl) (xs ys : List OnceH) (w : World) (hh : At w [fR (gT h xs), fR (gT h2 ys)]) (hl : xs.length ≤ 1048576) (hb : ∀ x ∈ xs, Once.small20 x.m) (hb2 : ∀ x ∈ ys, Once.small20 x.m) :
   Calls Tryz.prog 87 #[h.val xs.length, h2.val ys.length, .func (.func 88) #[] #[]] w (Ret w fun v L => v = .bool (decide (xs.map (·.m) = ys.map (·.m))) ∧ L = []) := by
 refine gQ Tryz.func87 rfl aA w _ rfl _ rfl _ hh ⟨rfl, rfl, rfl, rfl, trivial⟩ _ _ _ (by decide) ?_
 apply CaseB.mk <;> intro g
 · have hne : xs.map (·.m) ≠ ys.map (·.m) := fun e => by
     have := congrArg List.length e
     simp at this g
     omega
   refine aH ⟨?_, rfl⟩ (fun _ => rfl)
   simp [hne]
 · have hll : xs.length = ys.length := by simp at g; omega
   refine LoopW.mk ⟨{ k : Nat // k ≤ xs.length ∧ (xs.map (·.m)).take k = (ys.map (·.m)).take k },
     fun p => .mk [(1, .v (h2.val ys.length)), (2, .v (.func (.func 88) #[] #[])), (15, .v (h.val xs.length)), (16, .v (.int .i64 (xs.length : Int))), (17, .v (.int .i64 p.1))] 0 0 [] [] [fR (gT h xs), fR (gT h2 ys)],
     fun p => xs.length - p.1, ⟨0, Nat.zero_le _, rfl⟩, ?_, ?_⟩
   · exact aC [0, 1] zw2 zw0 zw2 zw5 zw4 rfl rfl
   · rintro ⟨k, hk, he⟩
     refine CaseB.mk (fun g2 => ?_) (fun g2 => ?_)
     · have hlt : k < xs.length := by simpa using g2
       have hlt2 : k < ys.length := by omega
       obtain ⟨q1, q2⟩ := eO he (by simpa using hlt) (by simpa using hlt2)
       simp only [List.getElem_map] at q1 q2
       refine aG cX aA rfl rfl rfl rfl rfl ⟨rfl, rfl⟩ (aL 0 rfl (.ofR aX)) k rfl z43 (fun ad => ?_)
       refine aG cX aA rfl rfl rfl rfl rfl ⟨rfl, rfl⟩ (aL 1 rfl (.ofR aX)) k rfl z43 (fun ad2 => ?_)
       refine iJ _ cl88 rfl rfl rfl rfl ⟨rfl, rfl⟩ (fun A w hW => (eM0 _ _ _ _ w ⟨hW.get 0 rfl (.ofR (hC h xs k hlt)), hW.get 1 rfl (.ofR (hC h2 ys k hlt2)), trivial⟩ (Nat.le_trans (hb _ (List.getElem_mem hlt)) (by decide)) (Nat.le_trans (hb2 _ (List.getElem_mem hlt2)) (by decide)))) ?_
       rintro v L ⟨rfl, rfl⟩
       refine CaseB.mk (fun g3 => ?_) (fun g3 => ?_)
       · have hne := q2 z94
         refine aH ⟨?_, rfl⟩ (fun _ => rfl)
         simp [hne]
       · have heq := q1 z94
         have hw := bD k _ hlt (by omega)
         refine ⟨⟨k + 1, by omega, heq⟩, ?_, by simp; omega⟩
         exact aC [0, 1] zw1 zw0 zw1 zw5 zw3 rfl rfl
     · have hge : xs.length ≤ k := by simpa using g2
       have heq : xs.map (·.m) = ys.map (·.m) := by rw [List.take_of_length_le z91, List.take_of_length_le z101] at he; exact he
       refine aH ⟨?_, rfl⟩ (fun _ => rfl)
       simp [heq]
theorem eO0 (h h2 : Sl) (xs ys : List GroupH) (w : World) (hh : At w [fR (fL h xs), fR (fL h2 ys)]) (hl : xs.length ≤ 1048576) (hb : ∀ x ∈ xs, Group.small20 x.m) (hb2 : ∀ x ∈ ys, Group.small20 x.m) :
   Calls Tryz.prog 89 #[h.val xs.length, h2.val ys.length, .func (.func 90) #[] #[]] w (Ret w fun v L => v = .bool (decide (xs.map (·.m) = ys.map (·.m))) ∧ L = []) := by
 refine gQ Tryz.func89 rfl aA w _ rfl _ rfl _ hh ⟨rfl, rfl, rfl, rfl, trivial⟩ _ _ _ (by decide) ?_
 apply CaseB.mk <;> intro g
 · have hne : xs.map (·.m) ≠ ys.map (·.m) := fun e => by
     have := congrArg List.length e
     simp at this g
     omega
   refine aH ⟨?_, rfl⟩ (fun _ => rfl)
   simp [hne]
 · have hll : xs.length = ys.length := by simp at g; omega
   refine LoopW.mk ⟨{ k : Nat // k ≤ xs.length ∧ (xs.map (·.m)).take k = (ys.map (·.m)).take k },
     fun p => .mk [(1, .v (h2.val ys.length)), (2, .v (.func (.func 90) #[] #[])), (15, .v (h.val xs.length)), (16, .v (.int .i64 (xs.length : Int))), (17, .v (.int .i64 p.1))] 0 0 [] [] [fR (fL h xs), fR (fL h2 ys)],
     fun p => xs.length - p.1, ⟨0, Nat.zero_le _, rfl⟩, ?_, ?_⟩
   · exact aC [0, 1] zw2 zw0 zw2 zw5 zw4 rfl rfl
   · rintro ⟨k, hk, he⟩
     refine CaseB.mk (fun g2 => ?_) (fun g2 => ?_)
     · have hlt : k < xs.length := by simpa using g2
       have hlt2 : k < ys.length := by omega
       obtain ⟨q1, q2⟩ := eO he (by simpa using hlt) (by simpa using hlt2)
       simp only [List.getElem_map] at q1 q2
       refine aG cI aA rfl rfl rfl rfl rfl ⟨rfl, rfl⟩ (aL 0 rfl (.ofR aX)) k rfl z43 (fun ad => ?_)
       refine aG cI aA rfl rfl rfl rfl rfl ⟨rfl, rfl⟩ (aL 1 rfl (.ofR aX)) k rfl z43 (fun ad2 => ?_)
       refine iJ _ cl90 rfl rfl rfl rfl ⟨rfl, rfl⟩ (fun A w hW => (dB0 _ _ _ _ w ⟨hW.get 0 rfl (.ofR (eK h xs k hlt)), hW.get 1 rfl (.ofR (eK h2 ys k hlt2)), trivial⟩ (Nat.le_trans (hb _ (List.getElem_mem hlt)) (by decide)) (Nat.le_trans (hb2 _ (List.getElem_mem hlt2)) (by decide)))) ?_
       rintro v L ⟨rfl, rfl⟩
       refine CaseB.mk (fun g3 => ?_) (fun g3 => ?_)
       · have hne := q2 z94
         refine aH ⟨?_, rfl⟩ (fun _ => rfl)
         simp [hne]
       · have heq := q1 z94
         have hw := bD k _ hlt (by omega)
         refine ⟨⟨k + 1, by omega, heq⟩, ?_, by simp; omega⟩
         exact aC [0, 1] zw1 zw0 zw1 zw5 zw3 rfl rfl
     · have hge : xs.length ≤ k := by simpa using g2
       have heq : xs.map (·.m) = ys.map (·.m) := by rw [List.take_of_length_le z91, List.take_of_length_le z101] at he; exact he
       refine aH ⟨?_, rfl⟩ (fun _ => rfl)
       simp [heq]
theorem bF0 (h h2 : Sl) (xs ys : List BarrierH) (w : World) (hh : At w [fR (eE h xs), fR (eE h2 ys)]) (hl : xs.length ≤ 1048576) (hb : ∀ x ∈ xs, Barrier.small20 x.m) (hb2 : ∀ x ∈ ys, Barrier.small20 x.m) :
   Calls Tryz.prog 91 #[h.val xs.length, h2.val ys.length, .func (.func 83) #[] #[]] w (Ret w fun v L => v = .bool (decide (xs.map (·.m) = ys.map (·.m))) ∧ L = []) := by
 refine gQ Tryz.func91 rfl aA w _ rfl _ rfl _ hh ⟨rfl, rfl, rfl, rfl, trivial⟩ _ _ _ (by decide) ?_
 apply CaseB.mk <;> intro g
 · have hne : xs.map (·.m) ≠ ys.map (·.m) := fun e => by
     have := congrArg List.length e
     simp at this g
     omega
   refine aH ⟨?_, rfl⟩ (fun _ => rfl)
   simp [hne]
 · have hll : xs.length = ys.length := by simp at g; omega
   refine LoopW.mk ⟨{ k : Nat // k ≤ xs.length ∧ (xs.map (·.m)).take k = (ys.map (·.m)).take k },
     fun p => .mk [(1, .v (h2.val ys.length)), (2, .v (.func (.func 83) #[] #[])), (15, .v (h.val xs.length)), (16, .v (.int .i64 (xs.length : Int))), (17, .v (.int .i64 p.1))] 0 0 [] [] [fR (eE h xs), fR (eE h2 ys)],
     fun p => xs.length - p.1, ⟨0, Nat.zero_le _, rfl⟩, ?_, ?_⟩
   · exact aC [0, 1] zw2 zw0 zw2 zw5 zw4 rfl rfl
   · rintro ⟨k, hk, he⟩
     refine CaseB.mk (fun g2 => ?_) (fun g2 => ?_)
     · have hlt : k < xs.length := by simpa using g2
       have hlt2 : k < ys.length := by omega
       obtain ⟨q1, q2⟩ := eO he (by simpa using hlt) (by simpa using hlt2)
       simp only [List.getElem_map] at q1 q2
       refine aG cA aA rfl rfl rfl rfl rfl ⟨rfl, rfl⟩ (aL 0 rfl (.ofR aX)) k rfl z43 (fun ad => ?_)
       refine aG cA aA rfl rfl rfl rfl rfl ⟨rfl, rfl⟩ (aL 1 rfl (.ofR aX)) k rfl z43 (fun ad2 => ?_)
       refine iJ _ cl83 rfl rfl rfl rfl ⟨rfl, rfl⟩ (fun A w hW => (yC _ _ _ _ w ⟨hW.get 0 rfl (.ofR (dO h xs k hlt)), hW.get 1 rfl (.ofR (dO h2 ys k hlt2)), trivial⟩ (Nat.le_trans (hb _ (List.getElem_mem hlt)) (by decide)) (Nat.le_trans (hb2 _ (List.getElem_mem hlt2)) (by decide)))) ?_
       rintro v L ⟨rfl, rfl⟩
       refine CaseB.mk (fun g3 => ?_) (fun g3 => ?_)
       · have hne := q2 z94
         refine aH ⟨?_, rfl⟩ (fun _ => rfl)
         simp [hne]
       · have heq := q1 z94
         have hw := bD k _ hlt (by omega)
         refine ⟨⟨k + 1, by omega, heq⟩, ?_, by simp; omega⟩
         exact aC [0, 1] zw1 zw0 zw1 zw5 zw3 rfl rfl
     · have hge : xs.length ≤ k := by simpa using g2
       have heq : xs.map (·.m) = ys.map (·.m) := by rw [List.take_of_length_le z91, List.take_of_length_le z101] at he; exact he
       refine aH ⟨?_, rfl⟩ (fun _ => rfl)
       simp [heq]
theorem iC0 (h h2 : Sl) (xs ys : List ChanH) (w : World) (hh : At w [fR (jQ h xs), fR (jQ h2 ys)]) (hl : xs.length ≤ 1048576) (hb : ∀ x ∈ xs, Chan.small20 x.m) (hb2 : ∀ x ∈ ys, Chan.small20 x.m) :
   Calls Tryz.prog 92 #[h.val xs.length, h2.val ys.length, .func (.func 93) #[] #[]] w (Ret w fun v L => v = .bool (decide (xs.map (·.m) = ys.map (·.m))) ∧ L = []) := by
 refine gQ Tryz.func92 rfl aA w _ rfl _ rfl _ hh ⟨rfl, rfl, rfl, rfl, trivial⟩ _ _ _ (by decide) ?_
 apply CaseB.mk <;> intro g
 · have hne : xs.map (·.m) ≠ ys.map (·.m) := fun e => by
     have := congrArg List.length e
     simp at this g
     omega
   refine aH ⟨?_, rfl⟩ (fun _ => rfl)
   simp [hne]
 · have hll : xs.length = ys.length := by simp at g; omega
   refine LoopW.mk ⟨{ k : Nat // k ≤ xs.length ∧ (xs.map (·.m)).take k = (ys.map (·.m)).take k },
     fun p => .mk [(1, .v (h2.val ys.length)), (2, .v (.func (.func 93) #[] #[])), (15, .v (h.val xs.length)), (16, .v (.int .i64 (xs.length : Int))), (17, .v (.int .i64 p.1))] 0 0 [] [] [fR (jQ h xs), fR (jQ h2 ys)],
     fun p => xs.length - p.1, ⟨0, Nat.zero_le _, rfl⟩, ?_, ?_⟩
   · exact aC [0, 1] zw2 zw0 zw2 zw5 zw4 rfl rfl
   · rintro ⟨k, hk, he⟩
     refine CaseB.mk (fun g2 => ?_) (fun g2 => ?_)
     · have hlt : k < xs.length := by simpa using g2
       have hlt2 : k < ys.length := by omega
       obtain ⟨q1, q2⟩ := eO he (by simpa using hlt) (by simpa using hlt2)
       simp only [List.getElem_map] at q1 q2
       refine aG cN aA rfl rfl rfl rfl rfl ⟨rfl, rfl⟩ (aL 0 rfl (.ofR aX)) k rfl z43 (fun ad => ?_)
       refine aG cN aA rfl rfl rfl rfl rfl ⟨rfl, rfl⟩ (aL 1 rfl (.ofR aX)) k rfl z43 (fun ad2 => ?_)
       refine iJ _ cl93 rfl rfl rfl rfl ⟨rfl, rfl⟩ (fun A w hW => (oP0 _ _ _ _ _ _ _ _ w ⟨hW.get 0 rfl (.ofR (kO h xs k hlt)), hW.get 0 rfl (.ofR (gJ h xs k hlt)), hW.get 0 rfl (.ofR (hH h xs k hlt)), hW.get 1 rfl (.ofR (kO h2 ys k hlt2)), hW.get 1 rfl (.ofR (gJ h2 ys k hlt2)), hW.get 1 rfl (.ofR (hH h2 ys k hlt2)), trivial⟩ (vO (hb _ (List.getElem_mem hlt))) (vO (hb2 _ (List.getElem_mem hlt2))))) ?_
       rintro v L ⟨rfl, rfl⟩
       refine CaseB.mk (fun g3 => ?_) (fun g3 => ?_)
       · have hne := q2 z94
         refine aH ⟨?_, rfl⟩ (fun _ => rfl)
         simp [hne]
       · have heq := q1 z94
         have hw := bD k _ hlt (by omega)
         refine ⟨⟨k + 1, by omega, heq⟩, ?_, by simp; omega⟩
         exact aC [0, 1] zw1 zw0 zw1 zw5 zw3 rfl rfl
     · have hge : xs.length ≤ k := by simpa using g2
       have heq : xs.map (·.m) = ys.map (·.m) := by rw [List.take_of_length_le z91, List.take_of_length_le z101] at he; exact he
       refine aH ⟨?_, rfl⟩ (fun _ => rfl)
       simp [heq]
theorem lF0 (s t : StateH) : s.pure = t.pure ↔ s.places = t.places ∧ s.status = t.status ∧ s.sems.map (·.m) = t.sems.map (·.m) ∧ s.onces.map (·.m) = t.onces.map (·.m) ∧ s.groups.map (·.m) = t.groups.map (·.m) ∧ s.barriers.map (·.m) = t.barriers.map (·.m) ∧ s.chans.map (·.m) = t.chans.map (·.m) ∧ s.said = t.said ∧ s.fault = t.fault := by
 simp only [StateH.pure, State.mk.injEq]
theorem dC0 (s t : StateH) (w : World) (h : At w [fR (aK s), fR (aK t)]) (hb : s.pure.small20) (hb2 : t.pure.small20) :
   Calls Tryz.prog 30 #[aM s, aM t] w (Ret w fun v L => v = .bool (decide (s.pure = t.pure)) ∧ L = []) := by
 have hx := lF0 s t
 obtain ⟨b0, b1, b2, b3, b4, b5, b6, b7⟩ := hb
 obtain ⟨c0, c1, c2, c3, c4, c5, c6, c7⟩ := hb2
 refine cB Tryz.func30 rfl aA w _ rfl _ rfl _ h ⟨rfl, rfl, rfl, rfl, trivial⟩ _ _ (by decide) ?_
 refine aB _ bV0 rfl rfl rfl rfl ⟨rfl, rfl⟩ (fun A w hW => lL s.h0 t.h0 s.places t.places w ⟨hW.get 0 rfl (.ofR (eF s)), hW.get 1 rfl (.ofR (eF t)), trivial⟩ (Nat.le_trans b0 (by decide)) (Nat.le_trans c0 (by decide))) ?_
 rintro v L ⟨rfl, rfl⟩
 refine CaseB.mk (fun h0 => ?_) (fun h0 => ?_)
 rotate_left
 · have g : ¬ s.pure = t.pure := fun e => by rw [hx] at e; simp [e] at h0
   exact aH ⟨by simp [g], rfl⟩ (fun _ => rfl)
 refine aB _ bV0 rfl rfl rfl rfl ⟨rfl, rfl⟩ (fun A w hW => lL s.h1 t.h1 s.status t.status w ⟨hW.get 0 rfl (.ofR (cS s)), hW.get 1 rfl (.ofR (cS t)), trivial⟩ (Nat.le_trans b1 (by decide)) (Nat.le_trans c1 (by decide))) ?_
 rintro v L ⟨rfl, rfl⟩
 refine CaseB.mk (fun h1 => ?_) (fun h1 => ?_)
 rotate_left
 · have g : ¬ s.pure = t.pure := fun e => by rw [hx] at e; simp [e] at h1
   exact aH ⟨by simp [g], rfl⟩ (fun _ => rfl)
 refine aB _ cl85 rfl rfl rfl rfl ⟨rfl, rfl⟩ (fun A w hW => lE0 s.h2 t.h2 s.sems t.sems w ⟨hW.get 0 rfl (.R_R (bU s)), hW.get 1 rfl (.R_R (bU t)), trivial⟩ (bM b2).1 (bM b2).2 (bM c2).2) ?_
 rintro v L ⟨rfl, rfl⟩
 refine CaseB.mk (fun h2 => ?_) (fun h2 => ?_)
 rotate_left
 · have g : ¬ s.pure = t.pure := fun e => by rw [hx] at e; simp [e] at h2
   exact aH ⟨by simp [g], rfl⟩ (fun _ => rfl)
 refine aB _ cl87 rfl rfl rfl rfl ⟨rfl, rfl⟩ (fun A w hW => iB0 s.h3 t.h3 s.onces t.onces w ⟨hW.get 0 rfl (.R_R (bW s)), hW.get 1 rfl (.R_R (bW t)), trivial⟩ (bM b3).1 (bM b3).2 (bM c3).2) ?_
 rintro v L ⟨rfl, rfl⟩
 refine CaseB.mk (fun h3 => ?_) (fun h3 => ?_)
 rotate_left
 · have g : ¬ s.pure = t.pure := fun e => by rw [hx] at e; simp [e] at h3
   exact aH ⟨by simp [g], rfl⟩ (fun _ => rfl)
 refine aB _ cl89 rfl rfl rfl rfl ⟨rfl, rfl⟩ (fun A w hW => eO0 s.h4 t.h4 s.groups t.groups w ⟨hW.get 0 rfl (.R_R (bL s)), hW.get 1 rfl (.R_R (bL t)), trivial⟩ (bM b4).1 (bM b4).2 (bM c4).2) ?_
 rintro v L ⟨rfl, rfl⟩
 refine CaseB.mk (fun h4 => ?_) (fun h4 => ?_)
 rotate_left
 · have g : ¬ s.pure = t.pure := fun e => by rw [hx] at e; simp [e] at h4
   exact aH ⟨by simp [g], rfl⟩ (fun _ => rfl)
 refine aB _ cl91 rfl rfl rfl rfl ⟨rfl, rfl⟩ (fun A w hW => bF0 s.h5 t.h5 s.barriers t.barriers w ⟨hW.get 0 rfl (.R_R (bJ s)), hW.get 1 rfl (.R_R (bJ t)), trivial⟩ (bM b5).1 (bM b5).2 (bM c5).2) ?_
 rintro v L ⟨rfl, rfl⟩
 refine CaseB.mk (fun h5 => ?_) (fun h5 => ?_)
 rotate_left
 · have g : ¬ s.pure = t.pure := fun e => by rw [hx] at e; simp [e] at h5
   exact aH ⟨by simp [g], rfl⟩ (fun _ => rfl)
 refine aB _ cl92 rfl rfl rfl rfl ⟨rfl, rfl⟩ (fun A w hW => iC0 s.h6 t.h6 s.chans t.chans w ⟨hW.get 0 rfl (.R_R (aQ s)), hW.get 1 rfl (.R_R (aQ t)), trivial⟩ (bM b6).1 (bM b6).2 (bM c6).2) ?_
 rintro v L ⟨rfl, rfl⟩
 refine CaseB.mk (fun h6 => ?_) (fun h6 => ?_)
 rotate_left
 · have g : ¬ s.pure = t.pure := fun e => by rw [hx] at e; simp [e] at h6
   exact aH ⟨by simp [g], rfl⟩ (fun _ => rfl)
 refine aB _ bV0 rfl rfl rfl rfl ⟨rfl, rfl⟩ (fun A w hW => lL s.h7 t.h7 s.said t.said w ⟨hW.get 0 rfl (.ofR (fM s)), hW.get 1 rfl (.ofR (fM t)), trivial⟩ (Nat.le_trans b7 (by decide)) (Nat.le_trans c7 (by decide))) ?_
 rintro v L ⟨rfl, rfl⟩
 refine CaseB.mk (fun h7 => ?_) (fun h7 => ?_)
 rotate_left
 · have g : ¬ s.pure = t.pure := fun e => by rw [hx] at e; simp [e] at h7
   exact aH ⟨by simp [g], rfl⟩ (fun _ => rfl)
 refine aH ⟨?_, rfl⟩ (fun _ => rfl)
 simp only [decide_eq_true_eq] at h0 h1 h2 h3 h4 h5 h6 h7
 have e : (s.pure = t.pure) ↔ s.fault = t.fault := by rw [hx]; simp [h0, h1, h2, h3, h4, h5, h6, h7]
 show Value.bool (s.fault == t.fault) = _
 rw [decide_eq_decide.2 e]; rfl
theorem gK0 (a b : StateH) (z z2 : Sl) (xs ys : List Int) (w : World) (h : At w [fR (aK a), slo z aJ 1 xs, fR (aK b), slo z2 aJ 1 ys]) (ha : a.pure.small20) (hb : b.pure.small20) (hx : xs.length ≤ 1048576) (hy : ys.length ≤ 1048576) :
   Calls Tryz.prog 12 #[kR0 a z xs.length, kR0 b z2 ys.length] w (Ret w fun v L => v = .bool (decide (a.pure = b.pure ∧ xs = ys)) ∧ L = []) := by
 refine cB Tryz.func12 rfl aA w _ rfl _ rfl _ h ⟨rfl, rfl, rfl, rfl, rfl, rfl, rfl, rfl, trivial⟩ _ _ (by decide) ?_
 refine aB _ cl30 rfl rfl rfl rfl ⟨rfl, rfl⟩ (fun A w hW => dC0 a b w ⟨hW.get 0 rfl (.refl _), hW.get 2 rfl (.refl _), trivial⟩ ha hb) ?_
 rintro v L ⟨rfl, rfl⟩
 apply CaseB.mk <;> intro g
 · have e : a.pure = b.pure := by simpa using g
   refine aB _ cl13 rfl rfl rfl rfl ⟨rfl, rfl⟩ (fun A w hW => cD0 z z2 xs ys w ⟨hW.get 1 rfl (.refl _), hW.get 3 rfl (.refl _), trivial⟩ (by omega) (by omega)) ?_
   rintro v L ⟨rfl, rfl⟩
   refine aH ⟨?_, rfl⟩ (fun _ => rfl)
   simp [e]
 · have e : ¬ a.pure = b.pure := by simpa using g
   refine aH ⟨?_, rfl⟩ (fun _ => rfl)
   simp [e]
theorem eP0 {p : Prog} {cs : List Int} {r : State × List Int} (h : runP p cs = some r) : r.1.small20 ∧ r.2.length ≤ 100 := by
 obtain ⟨_, _, _, _, _, h4⟩ := zN h 0
 refine ⟨?_, h4⟩
 rw [runP] at h
 split at h
 · rename_i hc; exact sF (lR hc.1) h
 · cases h
theorem mW0 {p : Prog} {cs : List Int} {x y : State} {t1 t2 : List Int} {b c : Bool} (i1 : b = true ↔ (runP p cs).isSome = true) (i2 : b = true → runP p cs = some (x, t1)) (i3 : b = false → x = State.zero ∧ t1 = []) (j1 : c = true ↔ (runP p cs).isSome = true) (j2 : c = true → runP p cs = some (y, t2)) (j3 : c = false → y = State.zero ∧ t2 = []) : y = x ∧ t2 = t1 ∧ c = b ∧ x.small20 ∧ t1.length ≤ 100 := by
 have e : c = b := Bool.eq_iff_iff.2 (j1.trans i1.symm)
 subst e
 cases c with
 | true =>
   have h1 := i2 rfl
   have h2 := j2 rfl
   rw [h1] at h2
   have h3 := Option.some.inj h2
   have h4 := eP0 h1
   exact ⟨(congrArg Prod.fst h3).symm, (congrArg Prod.snd h3).symm, rfl, h4.1, h4.2⟩
 | false =>
   obtain ⟨rfl, rfl⟩ := i3 rfl
   obtain ⟨rfl, rfl⟩ := j3 rfl
   exact ⟨rfl, rfl, rfl, tO, by simp⟩
end Go.Proofs.YtijmjecehppbfaaGreat
namespace Go.Sx
set_option maxRecDepth 100000
set_option maxHeartbeats 100000000
open Go Go.RowKit
def bs (l : List UInt8) : ByteArray := ⟨l.toArray⟩
theorem bG0 (l : List UInt8) : (bs l).toList = l := ByteArray.toList_mk l
theorem tT (l : List UInt8) : (bs l).size = l.length := by simp [bs, ByteArray.size]
theorem pD0 (a b : List UInt8) : bs a ++ bs b = bs (a ++ b) := ByteArray.mk_append_mk a b
theorem bH0 (s : List UInt8) (l h : Nat) : (bs s).extract l h = bs ((s.drop l).take (h - l)) := ByteArray.extract_mk s l h
theorem pE0 (s : List UInt8) (k : Nat) (h : k < s.length) : (bs s)[k]? = some s[k] := by
 have h2 : k < (bs s).size := by rw [tT]; exact h
 rw [ByteArray.getElem?_lt' _ _ h2]
 congr 1
def xR (x : List UInt8) : List Value := [.string (bs x)]
theorem kR : Enc xR 1 := ⟨fun _ => rfl, fun _ u hu => by simp [xR] at hu; subst hu; rfl⟩
theorem dB {P : Program} {t : TypeId} {a b : List UInt8} (h : a.length + b.length ≤ 9223372036854775807) (w : World) : (binOp .add t (.string (bs a)) (.string (bs b))).run P w = .ok (.string (bs (a ++ b))) w := by
 rw [binOp_string_add, run_string_add_sum w _ _ (by rw [tT, tT]; exact h), pD0]
theorem wH {P : Program} {t : TypeId} {a b : List UInt8} (w : World) : (binOp .eql t (.string (bs a)) (.string (bs b))).run P w = .ok (.bool (a == b)) w := by
 rw [gC0, bG0, bG0]
theorem wI {P : Program} {t : TypeId} {a b : List UInt8} (w : World) : (binOp .neq t (.string (bs a)) (.string (bs b))).run P w = .ok (.bool (a != b)) w := by
 rw [binOp_string_neq, bne]
 show (Op.stringOp .neq _ _).run P w = _
 simp [Op.stringOp, bG0]
section
variable {E : Env} {ti : Nat → TI} {A : Nat → Nat} {T : List (Nat × SV)} {n c : Nat} {B : List (Nat × TypeId × Nat)} {M : List ((Nat × Nat) × SV)} {F Fs : List Fct} {o : Oper} {next : St → Prop} {a : Act} {w : World}
theorem qZ {P : Program} {t : TypeId} {agg : Bool} {size bytes : Nat} {zero : List Value} {fs : List (Nat × Nat × Bool)} {el : Option TypeId} {ik : Option IntKind} (h : bK P t (.mk agg size zero fs el ik 2 bytes)) : P.underlying t = some .string := by
 obtain ⟨ii, dd, z, e1, e2, e3, e4, e5, e6, e7, e8, e9, e10, e11⟩ := aS h
 rw [e2, gT0 e10]
theorem lG0 (hti : ∀ t, bK E.P t (ti t)) (hT : TD E A T n c a w) {k : Call} {t : TypeId} {x : Operand} {s : List UInt8} {agg : Bool} {size bytes : Nat} {zero : List Value} {fs : List (Nat × Nat × Bool)} {el : Option TypeId} {ik : Option IntKind}
   (hop : o.op = .call k) (hk : k.callee = .builtin .len) (ha : k.args.toList = [x]) (hty : k.argTypes.toList = [t])
   (hx : bF T x = some (.v (.string (bs s)))) (ht : ti t = .mk agg size zero fs el ik 2 bytes) : (execOp a.eval o).run E.P w = .ok (.value (.int .i64 (s.length : Int))) w := by
 have htt := hti t
 rw [ht] at htt
 have hs := qZ htt
 have hx' := (aI hT hx).1
 simp only [SV.den] at hx'
 have hargs : k.args = #[x] := by apply Array.ext'; simpa using ha
 have htys : k.argTypes = #[t] := by apply Array.ext'; simpa using hty
 simp [execOp, hop, resolve, hk, hargs, htys, invoke, builtin, hx', run_len_string _ _ _ _ hs, goInt, tT]
theorem fJ {k : Call} {t : TypeId} {x : Operand} {d : Nat} {s : List UInt8} {agg : Bool} {size bytes : Nat} {zero : List Value} {fs : List (Nat × Nat × Bool)} {el : Option TypeId} {ik : Option IntKind}
   (hti : ∀ t, bK E.P t (ti t)) (hop : o.op = .call k) (hk : k.callee = .builtin .len) (ha : k.args.toList = [x]) (hty : k.argTypes.toList = [t])
   (hx : bF T x = some (.v (.string (bs s)))) (ht : ti t = .mk agg size zero fs el ik 2 bytes) (hd : Dst E o d)
   (hnext : next (.mk ((d, .v (.int .i64 (s.length : Int))) :: T) n c B M F)) : OpW (dI E o next T n c B M F) := by
 refine ⟨fun A a w hW hT => ?_⟩
 refine aW (lG0 hti hT hop hk ha hty hx ht) ?_
 rw [hd.1]
 exact ⟨_, ⟨_, hW, hT.put (v := .v (.int .i64 (s.length : Int))) hd.lt trivial⟩, hnext⟩
theorem lH0 (hti : ∀ t, bK E.P t (ti t)) (hT : TD E A T n c a w) {t : TypeId} {x y : Operand} {s : List UInt8} {kd : IntKind} {q : Int} {agg : Bool} {size bytes : Nat} {zero : List Value} {fs : List (Nat × Nat × Bool)} {el : Option TypeId} {ik : Option IntKind}
   (hop : o.op = .index t x y) (hx : bF T x = some (.v (.string (bs s)))) (hy : bF T y = some (.v (.int kd q))) (ht : ti t = .mk agg size zero fs el ik 2 bytes) (j : Nat) (hq : q = (j : Int)) (hj : j < s.length) :
   (execOp a.eval o).run E.P w = .ok (.value (.int .u8 (s[j].toNat : Int))) w := by
 have htt := hti t
 rw [ht] at htt
 have hs := qZ htt
 subst hq
 have hx' := (aI hT hx).1
 have hy' := (aI hT hy).1
 simp only [SV.den] at hx' hy'
 simp [execOp, hop, hx', hy', Instr.index, asIntOf, underlying, hs, pE0 s j hj]
theorem kB {t : TypeId} {x y : Operand} {d : Nat} {s : List UInt8} {kd : IntKind} {q : Int} {agg : Bool} {size bytes : Nat} {zero : List Value} {fs : List (Nat × Nat × Bool)} {el : Option TypeId} {ik : Option IntKind}
   (hti : ∀ t, bK E.P t (ti t)) (hop : o.op = .index t x y) (hx : bF T x = some (.v (.string (bs s)))) (hy : bF T y = some (.v (.int kd q))) (ht : ti t = .mk agg size zero fs el ik 2 bytes) (hd : Dst E o d) (j : Nat) (hq : q = (j : Int)) (hj : j < s.length)
   (hnext : next (.mk ((d, .v (.int .u8 (s[j].toNat : Int))) :: T) n c B M F)) : OpW (dI E o next T n c B M F) := by
 refine ⟨fun A a w hW hT => ?_⟩
 refine aW (lH0 hti hT hop hx hy ht j hq hj) ?_
 rw [hd.1]
 exact ⟨_, ⟨_, hW, hT.put (v := .v (.int .u8 (s[j].toNat : Int))) hd.lt trivial⟩, hnext⟩
theorem lI0 (hti : ∀ t, bK E.P t (ti t)) (hT : TD E A T n c a w) {t : TypeId} {x : Operand} {lo hi : Option Operand} {s : List UInt8} {ml mh : Int} {agg : Bool} {size bytes : Nat} {zero : List Value} {fs : List (Nat × Nat × Bool)} {el : Option TypeId} {ik : Option IntKind}
   (hop : o.op = .slice t x lo hi none) (hx : bF T x = some (.v (.string (bs s)))) (ht : ti t = .mk agg size zero fs el ik 2 bytes)
   (hlo : rC T 0 lo = some ml) (hhi : rC T (s.length : Int) hi = some mh) {l h : Nat} (el' : ml = (l : Int)) (eh : mh = (h : Int)) (h1 : l ≤ h) (h2 : h ≤ s.length) :
   (execOp a.eval o).run E.P w = .ok (.value (.string (bs ((s.drop l).take (h - l))))) w := by
 have htt := hti t
 rw [ht] at htt
 have hs := qZ htt
 subst el'; subst eh
 have hx' := (aI hT hx).1
 simp only [SV.den] at hx'
 have hz := tT s
 have key : ∀ lo' hi' : Option Value, ((lo' = none ∧ l = 0) ∨ ∃ kd, lo' = some (.int kd (l : Int))) → ((hi' = none ∧ h = s.length) ∨ ∃ kd, hi' = some (.int kd (h : Int))) →
     (Instr.slice t (.string (bs s)) lo' hi' none).run E.P w = .ok (.string (bs ((s.drop l).take (h - l)))) w := by
   rintro lo' hi' (⟨rfl, rfl⟩ | ⟨kd, rfl⟩) (⟨rfl, rfl⟩ | ⟨kd2, rfl⟩)
   · rw [run_slice_string_all w t _ hs, hz, bH0]
   · rw [run_slice_string_h w t _ hs kd2 _ (by omega) (by omega), bH0]; rfl
   · rw [run_slice_string_l w t _ hs kd _ (by omega) (by omega), hz, bH0]; rfl
   · rw [run_slice_string w t _ kd kd2 _ _ hs (by omega) (by omega) (by omega), bH0]; rfl
 have := key (lo.map a.eval) (hi.map a.eval) (by
   cases lo with
   | none => simp only [rC, Option.some.injEq] at hlo; exact .inl ⟨rfl, by omega⟩
   | some y => obtain ⟨kd, e⟩ := qS hT hlo; exact .inr ⟨kd, by simp [e]⟩) (by
   cases hi with
   | none => simp only [rC, Option.some.injEq] at hhi; exact .inl ⟨rfl, by omega⟩
   | some y => obtain ⟨kd, e⟩ := qS hT hhi; exact .inr ⟨kd, by simp [e]⟩)
 have hn : (Instr.sliceAt t (.string (bs s)) (lo.map a.eval) (hi.map a.eval) none).run E.P w = (Instr.slice t (.string (bs s)) (lo.map a.eval) (hi.map a.eval) none).run E.P w := by simp [Instr.sliceAt, underlying, hs]
 simp only [execOp, hop, hx', Option.map_none, hn, this, Sem.run_bind, Sem.run_pure, Result.andThen_ok]
theorem mK {t : TypeId} {x : Operand} {lo hi : Option Operand} {d : Nat} {s : List UInt8} {ml mh : Int} {agg : Bool} {size bytes : Nat} {zero : List Value} {fs : List (Nat × Nat × Bool)} {el : Option TypeId} {ik : Option IntKind}
   (hti : ∀ t, bK E.P t (ti t)) (hop : o.op = .slice t x lo hi none) (hx : bF T x = some (.v (.string (bs s)))) (ht : ti t = .mk agg size zero fs el ik 2 bytes) (hd : Dst E o d)
   (hlo : rC T 0 lo = some ml) (hhi : rC T (s.length : Int) hi = some mh) (l h : Nat) (el' : ml = (l : Int)) (eh : mh = (h : Int)) (h1 : l ≤ h) (h2 : h ≤ s.length)
   (hnext : next (.mk ((d, .v (.string (bs ((s.drop l).take (h - l))))) :: T) n c B M F)) : OpW (dI E o next T n c B M F) := by
 refine ⟨fun A a w hW hT => ?_⟩
 refine aW (lI0 hti hT hop hx ht hlo hhi el' eh h1 h2) ?_
 rw [hd.1]
 exact ⟨_, ⟨_, hW, hT.put (v := .v (.string (bs ((s.drop l).take (h - l))))) hd.lt trivial⟩, hnext⟩
theorem mX0 (hti : ∀ t, bK E.P t (ti t)) (hT : TD E A T n c a w) {src dst e : TypeId} {x : Operand} {i : Sl} {s : List UInt8} {agg : Bool} {size bytes kk : Nat} {zero : List Value} {fs : List (Nat × Nat × Bool)} {ik : Option IntKind} {agg2 : Bool} {size2 bytes2 kk2 : Nat} {zero2 : List Value} {fs2 : List (Nat × Nat × Bool)} {el2 : Option TypeId} {agg3 : Bool} {size3 bytes3 : Nat} {zero3 : List Value} {fs3 : List (Nat × Nat × Bool)} {el3 : Option TypeId} {ik3 : Option IntKind}
   (hop : o.op = .convert src dst x) (hx : bF T x = some (.v (i.val s.length))) (ht : ti src = .mk agg size zero fs (some e) ik kk bytes) (hte : ti e = .mk agg2 size2 zero2 fs2 el2 (some .u8) kk2 bytes2) (htd : ti dst = .mk agg3 size3 zero3 fs3 el3 ik3 2 bytes3)
   (hr : RdS w i 1 (s.map fun b => .int .u8 (b.toNat : Int)) s.length) (hpos : 0 < s.length) : (execOp a.eval o).run E.P w = .ok (.value (.string (bs s))) w := by
 have htt := hti src
 rw [ht] at htt
 obtain ⟨ii, dd, z, e1, e2, e3, e4, e5, e6, e7, e8, e9, e10, e11⟩ := aS htt
 have h1 : E.P.underlying src = some (.slice e) := by rw [e2, gD e8]
 have htt2 := hti e
 rw [hte] at htt2
 obtain ⟨ii2, dd2, z2, k1, k2, k3, k4, k5, k6, k7, k8, k9, k10, k11⟩ := aS htt2
 have h2 : E.P.underlying e = some (.int .u8) := by rw [k2, iS0 k9]
 have htt3 := hti dst
 rw [htd] at htt3
 have h3 := qZ htt3
 have hx' := (aI hT hx).1
 simp only [SV.den, Sl.val] at hx'
 obtain ⟨_, _, _, hc⟩ := hr
 obtain ⟨ad, ha, hcell⟩ := hc hpos
 have key := run_convert_bytes_back (P := E.P) w src dst e ad i.c s h1 h2 h3 (fun j hj => hcell j _ (by simp [List.getElem?_eq_getElem hj]))
 rw [ha] at hx'
 simp only [execOp, hop, hx', key, Sem.run_bind, Sem.run_pure, Result.andThen_ok]
 rfl
theorem dD0 {src dst e : TypeId} {x : Operand} {d : Nat} {i : Sl} {s : List UInt8} {agg : Bool} {size bytes kk : Nat} {zero : List Value} {fs : List (Nat × Nat × Bool)} {ik : Option IntKind} {agg2 : Bool} {size2 bytes2 kk2 : Nat} {zero2 : List Value} {fs2 : List (Nat × Nat × Bool)} {el2 : Option TypeId} {agg3 : Bool} {size3 bytes3 : Nat} {zero3 : List Value} {fs3 : List (Nat × Nat × Bool)} {el3 : Option TypeId} {ik3 : Option IntKind}
   (hti : ∀ t, bK E.P t (ti t)) (hop : o.op = .convert src dst x) (hx : bF T x = some (.v (i.val s.length))) (ht : ti src = .mk agg size zero fs (some e) ik kk bytes) (hte : ti e = .mk agg2 size2 zero2 fs2 el2 (some .u8) kk2 bytes2) (htd : ti dst = .mk agg3 size3 zero3 fs3 el3 ik3 2 bytes3) (hd : Dst E o d)
   (hF : ∀ w, (∀ f ∈ F, f.P w) → RdS w i 1 (s.map fun b => .int .u8 (b.toNat : Int)) s.length) (hpos : 0 < s.length)
   (hnext : next (.mk ((d, .v (.string (bs s))) :: T) n c B M F)) : OpW (dI E o next T n c B M F) := by
 refine ⟨fun A a w hW hT => ?_⟩
 refine aW (mX0 hti hT hop hx ht hte htd (hF w (fun f hf => (hW.fct f hf).1)) hpos) ?_
 rw [hd.1]
 exact ⟨_, ⟨_, hW, hT.put (v := .v (.string (bs s))) hd.lt trivial⟩, hnext⟩
end
end Go.Sx
namespace Go.Proofs.YtijmjecehppbfaaGreat
set_option maxRecDepth 100000
set_option maxHeartbeats 100000000
open Go Go.Sx Go.RowKit
abbrev Str := List UInt8
def uP (c : UInt8) : Str → Str → List Str
 | acc, [] => [acc]
 | acc, x :: r => if x = c then acc :: uP c [] r else uP c (acc ++ [x]) r
def gL (c : UInt8) (s : Str) : List Str := uP c [] s
theorem xS (c : UInt8) : ∀ (s acc : Str), 1 ≤ (uP c acc s).length ∧ (uP c acc s).length ≤ s.length + 1
 | [], acc => by simp [uP]
 | x :: r, acc => by
   simp only [uP]
   split
   · have := xS c r []; simp only [List.length_cons]; omega
   · have := xS c r (acc ++ [x]); simp only [List.length_cons]; omega
theorem uQ (c : UInt8) : ∀ (s acc : Str), ∀ x ∈ uP c acc s, x.length ≤ acc.length + s.length
 | [], acc, x, h => by simp only [uP, List.mem_singleton] at h; subst h; simp
 | y :: r, acc, x, h => by
   simp only [uP] at h
   split at h
   · rcases List.mem_cons.1 h with rfl | h
     · omega
     · have := uQ c r [] x h; simp only [List.length_cons, List.length_nil] at this ⊢; omega
   · have := uQ c r (acc ++ [y]) x h; simp only [List.length_cons, List.length_append, List.length_nil] at this ⊢; omega
theorem tU (c : UInt8) (s : Str) : 1 ≤ (gL c s).length ∧ (gL c s).length ≤ s.length + 1 := xS c s []
theorem rA {c : UInt8} {s x : Str} (h : x ∈ gL c s) : x.length ≤ s.length := by have := uQ c s [] x h; simpa using this
def tV : Int → Str → Option Int
 | n, [] => some n
 | n, x :: r => if x.toNat < 48 ∨ 57 < x.toNat then none else tV (n * 10 + ((x.toNat : Int) - 48)) r
def xT (s : Str) : Bool := decide (s.head? = some 45)
def nQ (s : Str) : Str := if xT s = true then s.drop 1 else s
def xU (s : Str) : Prop := (nQ s).length = 0 ∨ 17 < (nQ s).length ∨ ((nQ s).head? = some 48 ∧ (1 < (nQ s).length ∨ xT s = true))
instance (s : Str) : Decidable (xU s) := by unfold xU; exact inferInstance
def uR (s : Str) : Option Int := if xU s then none else (tV 0 (nQ s)).map fun n => if xT s = true then -n else n
def sG : Nat → Nat → Str → Str
 | 0, _, out => out
 | f + 1, n, out => if 9 < n then sG f (n / 10) (UInt8.ofNat (48 + n % 10) :: out) else UInt8.ofNat (48 + n) :: out
def lT (n : Int) : Str := if n < 0 then 45 :: sG 19 n.natAbs [] else sG 19 n.toNat []
theorem tW : ∀ (f n : Nat) (out : Str), (sG f n out).length ≤ out.length + f
 | 0, n, out => Nat.le_refl _
 | f + 1, n, out => by
   simp only [sG]
   split
   · have := tW f (n / 10) (UInt8.ofNat (48 + n % 10) :: out); simp only [List.length_cons] at this; omega
   · simp only [List.length_cons]; omega
theorem oM (n : Int) : (lT n).length ≤ 20 := by
 unfold lT
 split
 · have := tW 19 n.natAbs []; simp only [List.length_cons, List.length_nil] at this ⊢; omega
 · have := tW 19 n.toNat []; simp only [List.length_nil] at this; omega
def wordsL : List Str := [[], [115, 97, 121], [97, 99, 113, 117, 105, 114, 101], [114, 101, 108, 101, 97, 115, 101], [111, 110, 99, 101], [97, 100, 100], [119, 97, 105, 116], [97, 114, 114, 105, 118, 101], [115, 101, 110, 100], [103, 101, 116], [99, 108, 111, 115, 101]]
def fU (k : Int) : Str := if k < 1 ∨ 10 < k then [] else wordsL.getD k.toNat []
def jA (k : Int) : Int := if k = 6 ∨ k = 7 ∨ k = 9 ∨ k = 10 then 1 else if k = 1 then 0 else 2
theorem eQ0 : ∀ x ∈ wordsL, x.length ≤ 7 := by decide
theorem zQ (k : Int) : (fU k).length ≤ 7 := by
 unfold fU
 split
 · simp
 · rw [List.getD_eq_getElem?_getD]
   cases h : wordsL[k.toNat]? with
   | none => simp
   | some x => exact eQ0 x (List.mem_of_getElem? h)
def gB (o : Op) : Str := if fU o.kind = [] then [] else if jA o.kind = 0 then (fU o.kind ++ [32]) ++ lT o.arg else if jA o.kind = 1 then (fU o.kind ++ [32]) ++ lT o.on else (((fU o.kind ++ [32]) ++ lT o.on) ++ [32]) ++ lT o.arg
theorem eR0 (o : Op) : (gB o).length ≤ 60 := by
 have h1 := zQ o.kind
 have h2 := oM o.on
 have h3 := oM o.arg
 unfold gB
 split
 · simp
 split
 · simp only [List.length_append, List.length_cons, List.length_nil]; omega
 split
 · simp only [List.length_append, List.length_cons, List.length_nil]; omega
 · simp only [List.length_append, List.length_cons, List.length_nil]; omega
def nD (k : Int) (ns : List Int) : Option Op :=
 if jA k = 0 then match ns with | [a] => some ⟨k, 0, a⟩ | _ => none
 else if jA k = 1 then match ns with | [a] => some ⟨k, a, 0⟩ | _ => none
 else match ns with | [a, b] => some ⟨k, a, b⟩ | _ => none
def gO : List Str → Option (List Int)
 | [] => some []
 | s :: r => match uR s with
   | none => none
   | some n => match gO r with
     | none => none
     | some l => some (n :: l)
def pI (t w : Str) (ns : List Int) : Nat → Nat → Option Op
 | 0, _ => none
 | f + 1, k => if fU k = w then match nD k ns with
     | some o => if gB o = t then some o else pI t w ns f (k + 1)
     | none => pI t w ns f (k + 1)
   else pI t w ns f (k + 1)
def fC (t : Str) : Option Op :=
 match gO (((gL 32 t).drop 1).take 3) with
 | none => none
 | some ns => if ns.length + 1 = (gL 32 t).length then pI t ((gL 32 t).headD []) ns 10 1 else none
def jI : Str → List Int → Str
 | out, [] => out
 | out, x :: r => jI ((out ++ [32]) ++ lT x) r
def fF (w : Str) (l : List Int) : Str := if l = [] then [] else jI w l ++ [10]
def pE : Bool → Str → List Op → Str
 | _, out, [] => out
 | first, out, o :: r => pE false (((if first = true then out else out ++ [44]) ++ [32]) ++ gB o) r
def gX : Str → List (List Op) → Str
 | out, [] => out
 | out, t :: r => gX (pE true (out ++ [116, 104, 114, 101, 97, 100]) t ++ [10]) r
def tX (p : Prog) : Str := gX (((fF [115, 101, 109, 115] p.sems ++ fF [103, 114, 111, 117, 112, 115] p.groups) ++ fF [98, 97, 114, 114, 105, 101, 114, 115] p.barriers) ++ fF [114, 111, 111, 109, 115] p.rooms) p.threads
def tY (line w : Str) : Option (List Int) :=
 if (gL 32 line).headD [] = w ∧ 2 ≤ (gL 32 line).length then match gO (((gL 32 line).drop 1).take 5) with
   | none => none
   | some ns => if ns.length + 1 = (gL 32 line).length then some ns else none
 else none
def iD0 : List Str → Option (List Op)
 | [] => some []
 | s :: r => match (if s.head? = some 32 then fC (s.drop 1) else none) with
   | none => none
   | some o => match iD0 r with
     | none => none
     | some l => some (o :: l)
def opsM : List Str → Option (List Op)
 | [] => some []
 | s :: r => match fC s with
   | none => none
   | some o => match iD0 r with
     | none => none
     | some l => some (o :: l)
def mI (line : Str) : Option (List Op) :=
 if line = [116, 104, 114, 101, 97, 100] then some []
 else if line.length < 7 ∨ line.take 7 ≠ [116, 104, 114, 101, 97, 100, 32] then none
 else match opsM ((gL 44 (line.drop 7)).take 9) with
   | none => none
   | some l => if (gL 44 (line.drop 7)).length ≤ 8 then some l else none
def mA (p : Prog) (line : Str) : Prog :=
 match tY line [115, 101, 109, 115] with
 | some a => { p with sems := a }
 | none => match tY line [103, 114, 111, 117, 112, 115] with
   | some a => { p with groups := a }
   | none => match tY line [98, 97, 114, 114, 105, 101, 114, 115] with
     | some a => { p with barriers := a }
     | none => match tY line [114, 111, 111, 109, 115] with
       | some a => { p with rooms := a }
       | none => match mI line with
         | some t => { p with threads := p.threads ++ [t] }
         | none => p
def sH (t : Str) : Prog := (((gL 10 t).take ((gL 10 t).length - 1)).take 9).foldl mA ⟨[], [], [], [], []⟩
def samplesL : List Str := [[115, 101, 109, 115, 32, 49, 10, 116, 104, 114, 101, 97, 100, 32, 97, 99, 113, 117, 105, 114, 101, 32, 48, 32, 49, 44, 32, 115, 97, 121, 32, 49, 44, 32, 114, 101, 108, 101, 97, 115, 101, 32, 48, 32, 49, 10, 116, 104, 114, 101, 97, 100, 32, 97, 99, 113, 117, 105, 114, 101, 32, 48, 32, 49, 44, 32, 115, 97, 121, 32, 50, 44, 32, 114, 101, 108, 101, 97, 115, 101, 32, 48, 32, 49, 10], [115, 101, 109, 115, 32, 49, 32, 49, 10, 116, 104, 114, 101, 97, 100, 32, 97, 99, 113, 117, 105, 114, 101, 32, 48, 32, 49, 44, 32, 97, 99, 113, 117, 105, 114, 101, 32, 49, 32, 49, 44, 32, 114, 101, 108, 101, 97, 115, 101, 32, 49, 32, 49, 44, 32, 114, 101, 108, 101, 97, 115, 101, 32, 48, 32, 49, 10, 116, 104, 114, 101, 97, 100, 32, 97, 99, 113, 117, 105, 114, 101, 32, 49, 32, 49, 44, 32, 97, 99, 113, 117, 105, 114, 101, 32, 48, 32, 49, 44, 32, 114, 101, 108, 101, 97, 115, 101, 32, 48, 32, 49, 44, 32, 114, 101, 108, 101, 97, 115, 101, 32, 49, 32, 49, 10], [103, 114, 111, 117, 112, 115, 32, 50, 10, 116, 104, 114, 101, 97, 100, 32, 115, 97, 121, 32, 49, 44, 32, 97, 100, 100, 32, 48, 32, 45, 49, 10, 116, 104, 114, 101, 97, 100, 32, 115, 97, 121, 32, 50, 44, 32, 97, 100, 100, 32, 48, 32, 45, 49, 10, 116, 104, 114, 101, 97, 100, 32, 119, 97, 105, 116, 32, 48, 44, 32, 115, 97, 121, 32, 51, 10], [98, 97, 114, 114, 105, 101, 114, 115, 32, 50, 10, 116, 104, 114, 101, 97, 100, 32, 115, 97, 121, 32, 49, 44, 32, 97, 114, 114, 105, 118, 101, 32, 48, 44, 32, 115, 97, 121, 32, 50, 10, 116, 104, 114, 101, 97, 100, 32, 97, 114, 114, 105, 118, 101, 32, 48, 44, 32, 115, 97, 121, 32, 51, 10], [114, 111, 111, 109, 115, 32, 48, 10, 116, 104, 114, 101, 97, 100, 32, 115, 101, 110, 100, 32, 48, 32, 55, 44, 32, 115, 97, 121, 32, 49, 10, 116, 104, 114, 101, 97, 100, 32, 103, 101, 116, 32, 48, 44, 32, 115, 97, 121, 32, 50, 10], [116, 104, 114, 101, 97, 100, 32, 111, 110, 99, 101, 32, 48, 32, 53, 44, 32, 115, 97, 121, 32, 49, 10, 116, 104, 114, 101, 97, 100, 32, 111, 110, 99, 101, 32, 48, 32, 54, 44, 32, 115, 97, 121, 32, 50, 10], [114, 111, 111, 109, 115, 32, 49, 10, 116, 104, 114, 101, 97, 100, 32, 115, 101, 110, 100, 32, 48, 32, 49, 44, 32, 115, 101, 110, 100, 32, 48, 32, 50, 44, 32, 99, 108, 111, 115, 101, 32, 48, 10, 116, 104, 114, 101, 97, 100, 32, 103, 101, 116, 32, 48, 44, 32, 103, 101, 116, 32, 48, 44, 32, 103, 101, 116, 32, 48, 10], [103, 114, 111, 117, 112, 115, 32, 49, 10, 116, 104, 114, 101, 97, 100, 32, 97, 100, 100, 32, 48, 32, 45, 49, 44, 32, 97, 100, 100, 32, 48, 32, 45, 49, 10, 116, 104, 114, 101, 97, 100, 32, 119, 97, 105, 116, 32, 48, 10]]
instance (xs : List Int) (a b : Int) : Decidable (iL xs a b) := by unfold iL; exact inferInstance
instance (p : Prog) (o : Op) : Decidable (p.argOk o) := by unfold Prog.argOk; exact inferInstance
instance (p : Prog) (o : Op) : Decidable (OpOk p o) := by unfold OpOk; exact inferInstance
instance (p : Prog) : Decidable (ProgOk p) := decidable_of_iff (iL p.sems 1 9 ∧ iL p.groups 0 9 ∧ iL p.barriers 1 6 ∧ iL p.rooms 0 4 ∧ 1 ≤ p.threads.length ∧ p.threads.length ≤ 4 ∧ ∀ t ∈ p.threads, t.length ≤ 8 ∧ ∀ o ∈ t, OpOk p o)
 ⟨fun ⟨a, b, c, d, e, f, g⟩ => ⟨a, b, c, d, e, f, g⟩, fun ⟨a, b, c, d, e, f, g⟩ => ⟨a, b, c, d, e, f, g⟩⟩
theorem eS0 : ∀ t ∈ samplesL, t.length ≤ 200 ∧ ProgOk (sH t) ∧ tX (sH t) = t := by decide +kernel
end Go.Proofs.YtijmjecehppbfaaGreat
