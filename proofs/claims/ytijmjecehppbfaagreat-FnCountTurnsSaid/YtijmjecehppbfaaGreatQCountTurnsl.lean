/- FnCountTurns: texts that its proof stands on, part 12. -/
import Derived.Laws.IdiomStrings
import Derived.Laws.Strings2
import Derived.Laws.Slices
import Derived.Laws.Concat
import Derived.Test.YtijmjecehppbfaaGreatQCountTurnsk
namespace Go.Proofs.YtijmjecehppbfaaGreat
set_option maxRecDepth 100000
set_option maxHeartbeats 100000000
open Go Go.Sx Go.RowKit
theorem kS0 {Zs G : List Fct} (hm : fR G ∈ Zs) {o : Bool} {i : Sl} {sz m : Nat} {cs : List Value} (r : Rd (fR G) (fSl o i sz cs m)) : ∀ w, (∀ f ∈ Zs, f.P w) → RdS w i sz cs m := fun w h => r.p w (h _ hm)
theorem kT0 (s : StateH) (w : World) (h : At w [fR (aK s)]) (hb : s.pure.small20) :
   Calls Tryz.prog 81 #[aM s] w (Ret w fun v L => ∃ y : StateH, v = aM y ∧ y.pure = s.pure ∧ L = [fO (aK y)]) := by
 obtain ⟨b0, b1, b2, b3, b4, b5, b6, b7⟩ := hb
 have l0 : s.places.length ≤ 1048576 := b0
 have l1 : s.status.length ≤ 1048576 := b1
 have l7 : s.said.length ≤ 1048576 := b7
 have l2 : s.sems.length ≤ 1048576 := (cO b2).1
 have l3 : s.onces.length ≤ 1048576 := (cO b3).1
 have l4 : s.groups.length ≤ 1048576 := (cO b4).1
 have l5 : s.barriers.length ≤ 1048576 := (cO b5).1
 have l6 : s.chans.length ≤ 1048576 := (cO b6).1
 refine bV Tryz.func81 rfl aA w _ rfl _ rfl _ h ⟨rfl, rfl, trivial⟩ _ (by decide) ?_
 refine mL (Sl × Sl × Sl) (fun y => .mk [(1, .p 0 0), (2, .p 1 0), (3, .p 2 0)] 3 0 [(0, 35, 9), (1, 35, 9), (2, 35, 9)] [((0, 0), .v (s.h0.val s.places.length)), ((0, 1), .v (s.h1.val s.status.length)), ((0, 2), .v (s.h2.val s.sems.length)), ((0, 3), .v (s.h3.val s.onces.length)), ((0, 4), .v (s.h4.val s.groups.length)), ((0, 5), .v (s.h5.val s.barriers.length)), ((0, 6), .v (s.h6.val s.chans.length)), ((0, 7), .v (s.h7.val s.said.length)), ((0, 8), .v (.int .i64 s.fault)), ((2, 0), .v (y.1.val s.places.length)), ((2, 1), .v (y.2.1.val s.status.length)), ((2, 2), .v (.slice none 0 0)), ((2, 3), .v (.slice none 0 0)), ((2, 4), .v (.slice none 0 0)), ((2, 5), .v (.slice none 0 0)), ((2, 6), .v (.slice none 0 0)), ((2, 7), .v (y.2.2.val s.said.length)), ((2, 8), .v (.int .i64 s.fault))] [own y.1 3 aJ 1 s.places, own y.2.1 3 aJ 1 s.status, own y.2.2 3 aJ 1 s.said, fR (aK s)]) ?_ ?_
 · refine aE aA z107 z107 z107 200 [((0, 0), .v (s.h0.val s.places.length)), ((0, 1), .v (s.h1.val s.status.length)), ((0, 7), .v (s.h7.val s.said.length)), ((0, 8), .v (.int .i64 s.fault))] [] [] z129 z145 trivial rfl ?_
   repeat' ((conv => whnf); (first
     | refine BothW.mk ?_ ?_
     | refine AllSl.mk fun y => ?_
     | (refine nH rfl rfl ?_; refine lN (ti := aU tab) aD aA (xs := ([] : List Int)) rfl rfl rfl rfl rfl rfl rfl rfl rfl (by decide) ⟨rfl, rfl⟩ z44 (by first | exact kS0 z84 (.ofR (fX s)) | exact kS0 z84 (.ofR (cZ s)) | exact kS0 z84 (.ofR (iD s))) z48 z48 z105 (fun y => ?_))
     | fail))
   all_goals
     refine ⟨(?_, ?_, ?_), ?_⟩
     rotate_left 3
     exact aC [2, 1, 0, 3] zw2 zw0 zw2 zw5 zw4 rfl rfl
 rintro ⟨a, b, d⟩
 simp only
 refine LoopW.mk ⟨{ q : Nat × Sl × List SemH // q.1 ≤ s.sems.length ∧ q.2.2.map (·.m) = (s.sems.map (·.m)).take q.1 },
   fun q => .mk [(1, .p 0 0), (2, .p 1 0), (3, .p 2 0), (4, .v (.int .i64 (q.1.1 : Int)))] 3 0 [(0, 35, 9), (1, 35, 9), (2, 35, 9)] [((0, 0), .v (s.h0.val s.places.length)), ((0, 1), .v (s.h1.val s.status.length)), ((0, 2), .v (s.h2.val s.sems.length)), ((0, 3), .v (s.h3.val s.onces.length)), ((0, 4), .v (s.h4.val s.groups.length)), ((0, 5), .v (s.h5.val s.barriers.length)), ((0, 6), .v (s.h6.val s.chans.length)), ((0, 7), .v (s.h7.val s.said.length)), ((0, 8), .v (.int .i64 s.fault)), ((2, 0), .v (a.val s.places.length)), ((2, 1), .v (b.val s.status.length)), ((2, 2), .v (q.1.2.1.val q.1.2.2.length)), ((2, 3), .v (.slice none 0 0)), ((2, 4), .v (.slice none 0 0)), ((2, 5), .v (.slice none 0 0)), ((2, 6), .v (.slice none 0 0)), ((2, 7), .v (d.val s.said.length)), ((2, 8), .v (.int .i64 s.fault))] [own q.1.2.1 95 gF 3 q.1.2.2, fO (q.1.2.2.flatMap oG), own a 3 aJ 1 s.places, own b 3 aJ 1 s.status, own d 3 aJ 1 s.said, fR (aK s)],
   fun q => s.sems.length - q.1.1, ⟨(0, ⟨none, 0⟩, []), Nat.zero_le _, by simp⟩, ?_, ?_⟩
 · refine aO (.joinO [] (Gs := []) trivial rfl (.refl _)) ?_
   exact aC [99, 0, 1, 2, 3, 4] zw2 zw0 zw2 zw5 zw4 rfl rfl
 rintro ⟨⟨k, c0, L0⟩, hk, hL0⟩
 simp only at hk hL0
 have ln0 : L0.length = k := by have := congrArg List.length hL0; simp at this; omega
 apply CaseB.mk <;> intro g
 · have hlt : k < s.sems.length := by simpa using g
   have hw := bE k _ hlt (by omega)
   have hsm := (cO b2).2 _ (List.getElem_mem hlt)
   unfold Sem.small20 at hsm
   refine aE aA z107 z107 z107 200 [((0, 2), .v (s.h2.val s.sems.length))] [5] [_] z153 z156 ⟨rfl, trivial⟩ rfl ?_
   refine bM (ti := aU tab) dC aA rfl rfl rfl rfl rfl ⟨rfl, rfl⟩ (aL 0 rfl (.trans (.R_R (bW s)) (.ofR bG))) k rfl z48 (fun ad => ?_)
   refine BothW.mk ?_ ?_
   all_goals
     refine bL _ fI0 rfl rfl rfl rfl ⟨rfl, rfl⟩ (fun A w hW => tW _ _ w ⟨hW.get 5 rfl (.trans (.R_R (bW s)) (.ofR (kH _ _ k hlt))), trivial⟩ (by omega)) ?_
     rintro v L ⟨y0, rfl, rfl⟩
   rotate_left
   · refine BothW.mk ?_ ?_
     all_goals
       refine AllSl.mk fun u2 => ?_
       refine bS (ti := aU tab) dC 2 aA (ys := [⟨(s.sems[k]).m, y0⟩]) rfl rfl rfl rfl rfl rfl rfl rfl rfl (by decide) ⟨rfl, rfl⟩ rfl z40 z48 z48 z105 (fun c2 => ?_)
       refine ⟨⟨(k + 1, c2, L0 ++ [⟨(s.sems[k]).m, y0⟩]), hlt, by rw [List.map_append]; exact aR hlt hL0 rfl⟩, ?_, by simp only; omega⟩
       refine aO (.joinO [2, 3] (Gs := [[_], _]) z143 rfl (G := (L0 ++ [(⟨(s.sems[k]).m, y0⟩ : SemH)]).flatMap oG) z55) ?_
       exact aC [1, 0, 3, 4, 5, 6] zw1 zw0 zw1 zw5 zw3 rfl rfl
   refine AllSl.mk fun u2 => ?_
   refine bS (ti := aU tab) dC 2 aA (ys := [⟨(s.sems[k]).m, y0⟩]) rfl rfl rfl rfl rfl rfl rfl rfl rfl (by decide) ⟨rfl, rfl⟩ rfl z40 z48 z48 z105 (fun c2 => ?_)
   refine ⟨⟨(k + 1, c2, L0 ++ [⟨(s.sems[k]).m, y0⟩]), hlt, by rw [List.map_append]; exact aR hlt hL0 rfl⟩, ?_, by simp only; omega⟩
   refine aO (.joinO [2, 3] (Gs := [[_], _]) z143 rfl (G := (L0 ++ [(⟨(s.sems[k]).m, y0⟩ : SemH)]).flatMap oG) z55) ?_
   exact aC [1, 0, 3, 4, 5, 6] zw1 zw0 zw1 zw5 zw3 rfl rfl
 have hge : s.sems.length ≤ k := by simpa using g
 rw [List.take_of_length_le z96] at hL0
 refine LoopW.mk ⟨{ q : Nat × Sl × List OnceH // q.1 ≤ s.onces.length ∧ q.2.2.map (·.m) = (s.onces.map (·.m)).take q.1 },
   fun q => .mk [(1, .p 0 0), (2, .p 1 0), (3, .p 2 0), (5, .v (.int .i64 (q.1.1 : Int)))] 3 0 [(0, 35, 9), (1, 35, 9), (2, 35, 9)] [((0, 0), .v (s.h0.val s.places.length)), ((0, 1), .v (s.h1.val s.status.length)), ((0, 2), .v (s.h2.val s.sems.length)), ((0, 3), .v (s.h3.val s.onces.length)), ((0, 4), .v (s.h4.val s.groups.length)), ((0, 5), .v (s.h5.val s.barriers.length)), ((0, 6), .v (s.h6.val s.chans.length)), ((0, 7), .v (s.h7.val s.said.length)), ((0, 8), .v (.int .i64 s.fault)), ((2, 0), .v (a.val s.places.length)), ((2, 1), .v (b.val s.status.length)), ((2, 2), .v (c0.val L0.length)), ((2, 3), .v (q.1.2.1.val q.1.2.2.length)), ((2, 4), .v (.slice none 0 0)), ((2, 5), .v (.slice none 0 0)), ((2, 6), .v (.slice none 0 0)), ((2, 7), .v (d.val s.said.length)), ((2, 8), .v (.int .i64 s.fault))] [own q.1.2.1 102 eB 4 q.1.2.2, fO (q.1.2.2.flatMap mS), fO (lF c0 L0), own a 3 aJ 1 s.places, own b 3 aJ 1 s.status, own d 3 aJ 1 s.said, fR (aK s)],
   fun q => s.onces.length - q.1.1, ⟨(0, ⟨none, 0⟩, []), Nat.zero_le _, by simp⟩, ?_, ?_⟩
 · refine aO (.joinO [0, 1] (Gs := [[_], _]) z143 rfl (G := lF c0 L0) (.of_eq (by simp [lF, iB]))) ?_
   refine aO (.joinO [] (Gs := []) trivial rfl (.refl _)) ?_
   exact aC [99, 0, 1, 2, 3, 4, 5] zw2 zw0 zw2 zw5 zw4 rfl rfl
 rintro ⟨⟨k, c1, L1⟩, hk, hL1⟩
 simp only at hk hL1
 have ln1 : L1.length = k := by have := congrArg List.length hL1; simp at this; omega
 apply CaseB.mk <;> intro g
 · have hlt : k < s.onces.length := by simpa using g
   have hw := bE k _ hlt (by omega)
   have hsm := (cO b3).2 _ (List.getElem_mem hlt)
   unfold Once.small20 at hsm
   refine aE aA z107 z107 z107 200 [((0, 3), .v (s.h3.val s.onces.length))] [6] [_] z153 z156 ⟨rfl, trivial⟩ rfl ?_
   refine bM (ti := aU tab) cX aA rfl rfl rfl rfl rfl ⟨rfl, rfl⟩ (aL 0 rfl (.trans (.R_R (bX s)) (.ofR bG))) k rfl z48 (fun ad => ?_)
   refine BothW.mk ?_ ?_
   all_goals
     refine bL _ nA0 rfl rfl rfl rfl ⟨rfl, rfl⟩ (fun A w hW => dC0 _ _ w ⟨hW.get 6 rfl (.trans (.R_R (bX s)) (.ofR (iW _ _ k hlt))), trivial⟩ (by omega)) ?_
     rintro v L ⟨y0, rfl, rfl⟩
   rotate_left
   · refine BothW.mk ?_ ?_
     all_goals
       refine AllSl.mk fun u2 => ?_
       refine bS (ti := aU tab) cX 2 aA (ys := [⟨(s.onces[k]).m, y0⟩]) rfl rfl rfl rfl rfl rfl rfl rfl rfl (by decide) ⟨rfl, rfl⟩ rfl z40 z48 z48 z105 (fun c2 => ?_)
       refine ⟨⟨(k + 1, c2, L1 ++ [⟨(s.onces[k]).m, y0⟩]), hlt, by rw [List.map_append]; exact aR hlt hL1 rfl⟩, ?_, by simp only; omega⟩
       refine aO (.joinO [2, 3] (Gs := [[_], _]) z143 rfl (G := (L1 ++ [(⟨(s.onces[k]).m, y0⟩ : OnceH)]).flatMap mS) z53) ?_
       exact aC [1, 0, 3, 4, 5, 6, 7] zw1 zw0 zw1 zw5 zw3 rfl rfl
   refine AllSl.mk fun u2 => ?_
   refine bS (ti := aU tab) cX 2 aA (ys := [⟨(s.onces[k]).m, y0⟩]) rfl rfl rfl rfl rfl rfl rfl rfl rfl (by decide) ⟨rfl, rfl⟩ rfl z40 z48 z48 z105 (fun c2 => ?_)
   refine ⟨⟨(k + 1, c2, L1 ++ [⟨(s.onces[k]).m, y0⟩]), hlt, by rw [List.map_append]; exact aR hlt hL1 rfl⟩, ?_, by simp only; omega⟩
   refine aO (.joinO [2, 3] (Gs := [[_], _]) z143 rfl (G := (L1 ++ [(⟨(s.onces[k]).m, y0⟩ : OnceH)]).flatMap mS) z53) ?_
   exact aC [1, 0, 3, 4, 5, 6, 7] zw1 zw0 zw1 zw5 zw3 rfl rfl
 have hge : s.onces.length ≤ k := by simpa using g
 rw [List.take_of_length_le z96] at hL1
 refine LoopW.mk ⟨{ q : Nat × Sl × List GroupH // q.1 ≤ s.groups.length ∧ q.2.2.map (·.m) = (s.groups.map (·.m)).take q.1 },
   fun q => .mk [(1, .p 0 0), (2, .p 1 0), (3, .p 2 0), (6, .v (.int .i64 (q.1.1 : Int)))] 3 0 [(0, 35, 9), (1, 35, 9), (2, 35, 9)] [((0, 0), .v (s.h0.val s.places.length)), ((0, 1), .v (s.h1.val s.status.length)), ((0, 2), .v (s.h2.val s.sems.length)), ((0, 3), .v (s.h3.val s.onces.length)), ((0, 4), .v (s.h4.val s.groups.length)), ((0, 5), .v (s.h5.val s.barriers.length)), ((0, 6), .v (s.h6.val s.chans.length)), ((0, 7), .v (s.h7.val s.said.length)), ((0, 8), .v (.int .i64 s.fault)), ((2, 0), .v (a.val s.places.length)), ((2, 1), .v (b.val s.status.length)), ((2, 2), .v (c0.val L0.length)), ((2, 3), .v (c1.val L1.length)), ((2, 4), .v (q.1.2.1.val q.1.2.2.length)), ((2, 5), .v (.slice none 0 0)), ((2, 6), .v (.slice none 0 0)), ((2, 7), .v (d.val s.said.length)), ((2, 8), .v (.int .i64 s.fault))] [own q.1.2.1 108 dQ 2 q.1.2.2, fO (q.1.2.2.flatMap iV), fO (jJ c1 L1), fO (lF c0 L0), own a 3 aJ 1 s.places, own b 3 aJ 1 s.status, own d 3 aJ 1 s.said, fR (aK s)],
   fun q => s.groups.length - q.1.1, ⟨(0, ⟨none, 0⟩, []), Nat.zero_le _, by simp⟩, ?_, ?_⟩
 · refine aO (.joinO [0, 1] (Gs := [[_], _]) z143 rfl (G := jJ c1 L1) (.of_eq (by simp [jJ, iB]))) ?_
   refine aO (.joinO [] (Gs := []) trivial rfl (.refl _)) ?_
   exact aC [99, 0, 1, 2, 3, 4, 5, 6] zw2 zw0 zw2 zw5 zw4 rfl rfl
 rintro ⟨⟨k, c2, L2⟩, hk, hL2⟩
 simp only at hk hL2
 have ln2 : L2.length = k := by have := congrArg List.length hL2; simp at this; omega
 apply CaseB.mk <;> intro g
 · have hlt : k < s.groups.length := by simpa using g
   have hw := bE k _ hlt (by omega)
   have hsm := (cO b4).2 _ (List.getElem_mem hlt)
   unfold Group.small20 at hsm
   refine aE aA z107 z107 z107 200 [((0, 4), .v (s.h4.val s.groups.length))] [7] [_] z153 z156 ⟨rfl, trivial⟩ rfl ?_
   refine bM (ti := aU tab) cJ aA rfl rfl rfl rfl rfl ⟨rfl, rfl⟩ (aL 0 rfl (.trans (.R_R (bO s)) (.ofR bG))) k rfl z48 (fun ad => ?_)
   refine bM (ti := aU tab) cJ aA rfl rfl rfl rfl rfl ⟨rfl, rfl⟩ (aL 0 rfl (.trans (.R_R (bO s)) (.ofR bG))) k rfl z48 (fun ad2 => ?_)
   refine BothW.mk ?_ ?_
   · skip
     refine AllSl.mk fun u1 => ?_
     refine bS (ti := aU tab) aD 0 aA (xs := []) (ys := (s.groups[k]).m.waits) rfl rfl rfl rfl rfl rfl rfl rfl rfl (by decide) ⟨rfl, rfl⟩ rfl (aL 8 rfl (.trans (.R_R (bO s)) (.ofR (fG _ _ k hlt)))) z48 z48 z105 (fun y0 => ?_)
     refine AllSl.mk fun u2 => ?_
     refine bS (ti := aU tab) cJ 2 aA (ys := [⟨(s.groups[k]).m, y0⟩]) rfl rfl rfl rfl rfl rfl rfl rfl rfl (by decide) ⟨rfl, rfl⟩ rfl z40 z48 z48 z105 (fun c2 => ?_)
     refine ⟨⟨(k + 1, c2, L2 ++ [⟨(s.groups[k]).m, y0⟩]), hlt, by rw [List.map_append]; exact aR hlt hL2 rfl⟩, ?_, by simp only; omega⟩
     refine aO (.joinO [2, 3] (Gs := [[_], _]) z143 rfl (G := (L2 ++ [(⟨(s.groups[k]).m, y0⟩ : GroupH)]).flatMap iV) z52) ?_
     exact aC [1, 0, 3, 4, 5, 6, 7, 8] zw1 zw0 zw1 zw5 zw3 rfl rfl
   refine AllSl.mk fun u1 => ?_
   refine BothW.mk ?_ ?_
   · skip
     refine bS (ti := aU tab) aD 0 aA (xs := []) (ys := (s.groups[k]).m.waits) rfl rfl rfl rfl rfl rfl rfl rfl rfl (by decide) ⟨rfl, rfl⟩ rfl (aL 8 rfl (.trans (.R_R (bO s)) (.ofR (fG _ _ k hlt)))) z48 z48 z105 (fun y0 => ?_)
     refine AllSl.mk fun u2 => ?_
     refine bS (ti := aU tab) cJ 2 aA (ys := [⟨(s.groups[k]).m, y0⟩]) rfl rfl rfl rfl rfl rfl rfl rfl rfl (by decide) ⟨rfl, rfl⟩ rfl z40 z48 z48 z105 (fun c2 => ?_)
     refine ⟨⟨(k + 1, c2, L2 ++ [⟨(s.groups[k]).m, y0⟩]), hlt, by rw [List.map_append]; exact aR hlt hL2 rfl⟩, ?_, by simp only; omega⟩
     refine aO (.joinO [2, 3] (Gs := [[_], _]) z143 rfl (G := (L2 ++ [(⟨(s.groups[k]).m, y0⟩ : GroupH)]).flatMap iV) z52) ?_
     exact aC [1, 0, 3, 4, 5, 6, 7, 8] zw1 zw0 zw1 zw5 zw3 rfl rfl
   refine bS (ti := aU tab) aD 0 aA (xs := []) (ys := (s.groups[k]).m.waits) rfl rfl rfl rfl rfl rfl rfl rfl rfl (by decide) ⟨rfl, rfl⟩ rfl (aL 8 rfl (.trans (.R_R (bO s)) (.ofR (fG _ _ k hlt)))) z48 z48 z105 (fun y0 => ?_)
   refine BothW.mk ?_ ?_
   all_goals
     refine AllSl.mk fun u2 => ?_
     refine bS (ti := aU tab) cJ 2 aA (ys := [⟨(s.groups[k]).m, y0⟩]) rfl rfl rfl rfl rfl rfl rfl rfl rfl (by decide) ⟨rfl, rfl⟩ rfl z40 z48 z48 z105 (fun c2 => ?_)
     refine ⟨⟨(k + 1, c2, L2 ++ [⟨(s.groups[k]).m, y0⟩]), hlt, by rw [List.map_append]; exact aR hlt hL2 rfl⟩, ?_, by simp only; omega⟩
     refine aO (.joinO [2, 3] (Gs := [[_], _]) z143 rfl (G := (L2 ++ [(⟨(s.groups[k]).m, y0⟩ : GroupH)]).flatMap iV) z52) ?_
     exact aC [1, 0, 3, 4, 5, 6, 7, 8] zw1 zw0 zw1 zw5 zw3 rfl rfl
 have hge : s.groups.length ≤ k := by simpa using g
 rw [List.take_of_length_le z96] at hL2
 refine LoopW.mk ⟨{ q : Nat × Sl × List BarrierH // q.1 ≤ s.barriers.length ∧ q.2.2.map (·.m) = (s.barriers.map (·.m)).take q.1 },
   fun q => .mk [(1, .p 0 0), (2, .p 1 0), (3, .p 2 0), (7, .v (.int .i64 (q.1.1 : Int)))] 3 0 [(0, 35, 9), (1, 35, 9), (2, 35, 9)] [((0, 0), .v (s.h0.val s.places.length)), ((0, 1), .v (s.h1.val s.status.length)), ((0, 2), .v (s.h2.val s.sems.length)), ((0, 3), .v (s.h3.val s.onces.length)), ((0, 4), .v (s.h4.val s.groups.length)), ((0, 5), .v (s.h5.val s.barriers.length)), ((0, 6), .v (s.h6.val s.chans.length)), ((0, 7), .v (s.h7.val s.said.length)), ((0, 8), .v (.int .i64 s.fault)), ((2, 0), .v (a.val s.places.length)), ((2, 1), .v (b.val s.status.length)), ((2, 2), .v (c0.val L0.length)), ((2, 3), .v (c1.val L1.length)), ((2, 4), .v (c2.val L2.length)), ((2, 5), .v (q.1.2.1.val q.1.2.2.length)), ((2, 6), .v (.slice none 0 0)), ((2, 7), .v (d.val s.said.length)), ((2, 8), .v (.int .i64 s.fault))] [own q.1.2.1 114 cY 3 q.1.2.2, fO (q.1.2.2.flatMap dZ), fO (iO c2 L2), fO (jJ c1 L1), fO (lF c0 L0), own a 3 aJ 1 s.places, own b 3 aJ 1 s.status, own d 3 aJ 1 s.said, fR (aK s)],
   fun q => s.barriers.length - q.1.1, ⟨(0, ⟨none, 0⟩, []), Nat.zero_le _, by simp⟩, ?_, ?_⟩
 · refine aO (.joinO [0, 1] (Gs := [[_], _]) z143 rfl (G := iO c2 L2) (.of_eq (by simp [iO, iB]))) ?_
   refine aO (.joinO [] (Gs := []) trivial rfl (.refl _)) ?_
   exact aC [99, 0, 1, 2, 3, 4, 5, 6, 7] zw2 zw0 zw2 zw5 zw4 rfl rfl
 rintro ⟨⟨k, c3, L3⟩, hk, hL3⟩
 simp only at hk hL3
 have ln3 : L3.length = k := by have := congrArg List.length hL3; simp at this; omega
 apply CaseB.mk <;> intro g
 · have hlt : k < s.barriers.length := by simpa using g
   have hw := bE k _ hlt (by omega)
   have hsm := (cO b5).2 _ (List.getElem_mem hlt)
   unfold Barrier.small20 at hsm
   refine aG cC aA rfl rfl rfl rfl rfl ⟨rfl, rfl⟩ (aL 8 rfl (.trans (.R_R (bK s)) (.ofR bG))) k rfl z48 (fun ad => ?_)
   refine aE aA z107 z107 z107 200 [((3, 0), .v (.int .i64 (s.barriers[k]).m.parties)), ((3, 1), .v (.int .i64 (s.barriers[k]).m.round)), ((3, 2), .v ((s.barriers[k]).q.val (s.barriers[k]).m.waits.length))] [8] [_] z136 z148 ⟨rfl, trivial⟩ rfl ?_
   refine BothW.mk ?_ ?_
   · skip
     refine AllSl.mk fun u1 => ?_
     refine bS (ti := aU tab) aD 0 aA (xs := []) (ys := (s.barriers[k]).m.waits) rfl rfl rfl rfl rfl rfl rfl rfl rfl (by decide) ⟨rfl, rfl⟩ rfl (aL 9 rfl (.trans (.R_R (bK s)) (.ofR (eE _ _ k hlt)))) z48 z48 z105 (fun y0 => ?_)
     refine AllSl.mk fun u2 => ?_
     refine bS (ti := aU tab) cC 2 aA (ys := [⟨(s.barriers[k]).m, y0⟩]) rfl rfl rfl rfl rfl rfl rfl rfl rfl (by decide) ⟨rfl, rfl⟩ rfl z40 z48 z48 z105 (fun c2 => ?_)
     refine ⟨⟨(k + 1, c2, L3 ++ [⟨(s.barriers[k]).m, y0⟩]), hlt, by rw [List.map_append]; exact aR hlt hL3 rfl⟩, ?_, by simp only; omega⟩
     refine aO (.joinO [2, 3] (Gs := [[_], _]) z143 rfl (G := (L3 ++ [(⟨(s.barriers[k]).m, y0⟩ : BarrierH)]).flatMap dZ) z51) ?_
     exact aC [1, 0, 3, 4, 5, 6, 7, 8, 9] zw1 zw0 zw1 zw5 zw3 rfl rfl
   refine AllSl.mk fun u1 => ?_
   refine BothW.mk ?_ ?_
   · skip
     refine bS (ti := aU tab) aD 0 aA (xs := []) (ys := (s.barriers[k]).m.waits) rfl rfl rfl rfl rfl rfl rfl rfl rfl (by decide) ⟨rfl, rfl⟩ rfl (aL 9 rfl (.trans (.R_R (bK s)) (.ofR (eE _ _ k hlt)))) z48 z48 z105 (fun y0 => ?_)
     refine AllSl.mk fun u2 => ?_
     refine bS (ti := aU tab) cC 2 aA (ys := [⟨(s.barriers[k]).m, y0⟩]) rfl rfl rfl rfl rfl rfl rfl rfl rfl (by decide) ⟨rfl, rfl⟩ rfl z40 z48 z48 z105 (fun c2 => ?_)
     refine ⟨⟨(k + 1, c2, L3 ++ [⟨(s.barriers[k]).m, y0⟩]), hlt, by rw [List.map_append]; exact aR hlt hL3 rfl⟩, ?_, by simp only; omega⟩
     refine aO (.joinO [2, 3] (Gs := [[_], _]) z143 rfl (G := (L3 ++ [(⟨(s.barriers[k]).m, y0⟩ : BarrierH)]).flatMap dZ) z51) ?_
     exact aC [1, 0, 3, 4, 5, 6, 7, 8, 9] zw1 zw0 zw1 zw5 zw3 rfl rfl
   refine bS (ti := aU tab) aD 0 aA (xs := []) (ys := (s.barriers[k]).m.waits) rfl rfl rfl rfl rfl rfl rfl rfl rfl (by decide) ⟨rfl, rfl⟩ rfl (aL 9 rfl (.trans (.R_R (bK s)) (.ofR (eE _ _ k hlt)))) z48 z48 z105 (fun y0 => ?_)
   refine BothW.mk ?_ ?_
   all_goals
     refine AllSl.mk fun u2 => ?_
     refine bS (ti := aU tab) cC 2 aA (ys := [⟨(s.barriers[k]).m, y0⟩]) rfl rfl rfl rfl rfl rfl rfl rfl rfl (by decide) ⟨rfl, rfl⟩ rfl z40 z48 z48 z105 (fun c2 => ?_)
     refine ⟨⟨(k + 1, c2, L3 ++ [⟨(s.barriers[k]).m, y0⟩]), hlt, by rw [List.map_append]; exact aR hlt hL3 rfl⟩, ?_, by simp only; omega⟩
     refine aO (.joinO [2, 3] (Gs := [[_], _]) z143 rfl (G := (L3 ++ [(⟨(s.barriers[k]).m, y0⟩ : BarrierH)]).flatMap dZ) z51) ?_
     exact aC [1, 0, 3, 4, 5, 6, 7, 8, 9] zw1 zw0 zw1 zw5 zw3 rfl rfl
 have hge : s.barriers.length ≤ k := by simpa using g
 rw [List.take_of_length_le z96] at hL3
 refine LoopW.mk ⟨{ q : Nat × Sl × List ChanH // q.1 ≤ s.chans.length ∧ q.2.2.map (·.m) = (s.chans.map (·.m)).take q.1 },
   fun q => .mk [(1, .p 0 0), (2, .p 1 0), (3, .p 2 0), (9, .v (.int .i64 (q.1.1 : Int)))] 3 0 [(0, 35, 9), (1, 35, 9), (2, 35, 9)] [((0, 0), .v (s.h0.val s.places.length)), ((0, 1), .v (s.h1.val s.status.length)), ((0, 2), .v (s.h2.val s.sems.length)), ((0, 3), .v (s.h3.val s.onces.length)), ((0, 4), .v (s.h4.val s.groups.length)), ((0, 5), .v (s.h5.val s.barriers.length)), ((0, 6), .v (s.h6.val s.chans.length)), ((0, 7), .v (s.h7.val s.said.length)), ((0, 8), .v (.int .i64 s.fault)), ((2, 0), .v (a.val s.places.length)), ((2, 1), .v (b.val s.status.length)), ((2, 2), .v (c0.val L0.length)), ((2, 3), .v (c1.val L1.length)), ((2, 4), .v (c2.val L2.length)), ((2, 5), .v (c3.val L3.length)), ((2, 6), .v (q.1.2.1.val q.1.2.2.length)), ((2, 7), .v (d.val s.said.length)), ((2, 8), .v (.int .i64 s.fault))] [own q.1.2.1 119 fD 5 q.1.2.2, fO (q.1.2.2.flatMap gJ), fO (gG c3 L3), fO (iO c2 L2), fO (jJ c1 L1), fO (lF c0 L0), own a 3 aJ 1 s.places, own b 3 aJ 1 s.status, own d 3 aJ 1 s.said, fR (aK s)],
   fun q => s.chans.length - q.1.1, ⟨(0, ⟨none, 0⟩, []), Nat.zero_le _, by simp⟩, ?_, ?_⟩
 · refine aO (.joinO [0, 1] (Gs := [[_], _]) z143 rfl (G := gG c3 L3) (.of_eq (by simp [gG, iB]))) ?_
   refine aO (.joinO [] (Gs := []) trivial rfl (.refl _)) ?_
   exact aC [99, 0, 1, 2, 3, 4, 5, 6, 7, 8] zw2 zw0 zw2 zw5 zw4 rfl rfl
 rintro ⟨⟨k, c4, L4⟩, hk, hL4⟩
 simp only at hk hL4
 have ln4 : L4.length = k := by have := congrArg List.length hL4; simp at this; omega
 apply CaseB.mk <;> intro g
 · have hlt : k < s.chans.length := by simpa using g
   have hw := bE k _ hlt (by omega)
   have hsm := (cO b6).2 _ (List.getElem_mem hlt)
   obtain ⟨z0, z1, z2⟩ := hsm
   refine aE aA z107 z107 z107 200 [((0, 6), .v (s.h6.val s.chans.length))] [9] [_] z153 z156 ⟨rfl, trivial⟩ rfl ?_
   refine bM (ti := aU tab) cN aA rfl rfl rfl rfl rfl ⟨rfl, rfl⟩ (aL 0 rfl (.trans (.R_R (aQ s)) (.ofR bG))) k rfl z48 (fun ad => ?_)
   refine BothW.mk ?_ ?_
   all_goals
     refine bL _ fJ0 rfl rfl rfl rfl ⟨rfl, rfl⟩ (fun A w hW => aS0 _ _ _ _ w ⟨hW.get 9 rfl (.trans (.R_R (aQ s)) (.ofR (mU _ _ k hlt))), hW.get 9 rfl (.trans (.R_R (aQ s)) (.ofR (iC _ _ k hlt))), hW.get 9 rfl (.trans (.R_R (aQ s)) (.ofR (iX _ _ k hlt))), trivial⟩ ⟨by omega, by omega, by omega⟩) ?_
     rintro v L ⟨y0, y1, y2, rfl, rfl⟩
   rotate_left
   · refine BothW.mk ?_ ?_
     all_goals
       refine AllSl.mk fun u2 => ?_
       refine bS (ti := aU tab) cN 4 aA (ys := [⟨(s.chans[k]).m, y0, y1, y2⟩]) rfl rfl rfl rfl rfl rfl rfl rfl rfl (by decide) ⟨rfl, rfl⟩ rfl z40 z48 z48 z105 (fun c2 => ?_)
       refine ⟨⟨(k + 1, c2, L4 ++ [⟨(s.chans[k]).m, y0, y1, y2⟩]), hlt, by rw [List.map_append]; exact aR hlt hL4 rfl⟩, ?_, by simp only; omega⟩
       refine aO (.joinO [2, 3, 4, 5] (Gs := [[_], [_], [_], _]) z127 rfl (G := (L4 ++ [(⟨(s.chans[k]).m, y0, y1, y2⟩ : ChanH)]).flatMap gJ) z54) ?_
       exact aC [1, 0, 3, 4, 5, 6, 7, 8, 9, 10] zw1 zw0 zw1 zw5 zw3 rfl rfl
   refine AllSl.mk fun u2 => ?_
   refine bS (ti := aU tab) cN 4 aA (ys := [⟨(s.chans[k]).m, y0, y1, y2⟩]) rfl rfl rfl rfl rfl rfl rfl rfl rfl (by decide) ⟨rfl, rfl⟩ rfl z40 z48 z48 z105 (fun c2 => ?_)
   refine ⟨⟨(k + 1, c2, L4 ++ [⟨(s.chans[k]).m, y0, y1, y2⟩]), hlt, by rw [List.map_append]; exact aR hlt hL4 rfl⟩, ?_, by simp only; omega⟩
   refine aO (.joinO [2, 3, 4, 5] (Gs := [[_], [_], [_], _]) z127 rfl (G := (L4 ++ [(⟨(s.chans[k]).m, y0, y1, y2⟩ : ChanH)]).flatMap gJ) z54) ?_
   exact aC [1, 0, 3, 4, 5, 6, 7, 8, 9, 10] zw1 zw0 zw1 zw5 zw3 rfl rfl
 have hge : s.chans.length ≤ k := by simpa using g
 rw [List.take_of_length_le z96] at hL4
 refine aP (.joinO [0, 1] (Gs := [[_], _]) z143 rfl (G := mT c4 L4) (.of_eq (by simp [mT, iB]))) ?_
 generalize hy : (⟨s.places, s.status, L0, L1, L2, L3, L4, s.said, s.fault, a, b, c0, c1, c2, c3, c4, d⟩ : StateH) = y
 refine aP (.joinO [5, 6, 4, 3, 2, 1, 0, 7] (Gs := [[_], [_], _, _, _, _, _, [_]]) z116 rfl (G := aK y) (by subst hy; exact .of_eq z101)) ?_
 exact bC [0] ⟨y, by rw [← hy]; rfl, by rw [← hy]; simp [StateH.pure, hL0, hL1, hL2, hL3, hL4], rfl⟩ z151 rfl ⟨rfl, trivial⟩ (fun _ => rfl)
theorem bL0 (p : Prog) (s : State) (hs : s.small20) : ∃ A : List Int, A.length ≤ 1048576 ∧ ∀ xs : List Int, (Fits p s → xs = cQ s) → (¬ Fits p s → xs = []) → xs = A := by
 by_cases h : Fits p s
 · refine ⟨cQ s, ?_, fun xs h1 _ => h1 h⟩
   have h2 : s.status.length ≤ 1048576 := hs.2.1
   rw [cQ]
   split
   · exact Nat.le_trans (mW _) h2
   · simp
 · exact ⟨[], by simp, fun xs _ h2 => h2 h⟩
theorem hQ0 {p : Prog} {s : State} {t : Int} (ft : Fits p s) (h : t ∈ cQ s) (hl : (doM p s t).said.length ≤ 64) : (doM p s t).small20 := by
 by_cases hw : rL p s t
 · obtain ⟨k, ops, a, st, op, rfl, r⟩ := rdy ft h
   rw [rL, r.at_] at hw
   obtain ⟨k7, hw⟩ := hw
   have e : doM p s (k : Int) = bB (setBarrier s op ⟨0, 0, []⟩) k 1 := by
     simp only [doM, r.at_, dD, k7, gT, hw]
     simp
   rw [e]
   obtain ⟨b0, b1, b2, b3, b4, b5, b6, b7⟩ := ft.small
   refine ⟨b0, by simpa [bB, setBarrier] using b1, b2, b3, b4, ⟨by simpa [bB, setBarrier] using b5.1, fun x hx => ?_⟩, b6, b7⟩
   rcases List.mem_or_eq_of_mem_set hx with hx | rfl
   · exact b5.2 x hx
   · simp [Barrier.small20]
 · exact (zL ft h hl hw).small
def oS0 (p : Prog) (s : State) (t : Int) (v : Value) (L : List Fct) : Prop := ∃ (y : StateH) (b : Bool), v = .tuple #[aM y, .bool b] ∧ (b = true ↔ StepOk p s t) ∧ (b = true → y.pure = doM p s t) ∧ (b = false → y.pure = State.zero) ∧ L = [fN (aK y)]
theorem rY (p : ProgH) (s : StateH) (t : Int) (w : World) (h : At w [fR (aV p), fR (aK s)]) (hp : p.pure.small20) (hs : s.pure.small20) :
   Calls Tryz.prog 29 #[dJ p, aM s, .int .i64 t] w (Ret w (oS0 p.pure s.pure t)) := by
 have hb : s.status.length ≤ 1048576 := hs.2.1
 obtain ⟨A, hA, one⟩ := bL0 p.pure s.pure hs
 refine kD Tryz.func29 rfl aA w _ rfl _ rfl _ h ⟨rfl, rfl, rfl, rfl, trivial⟩ _ _ _ (by decide) ?_
 refine aB _ cl79 rfl rfl rfl rfl ⟨rfl, rfl⟩ (fun A w hW => wD p s w ⟨hW.get 0 rfl (.refl _), hW.get 1 rfl (.refl _), trivial⟩ hp hs) ?_
 rintro v L ⟨yr, xs, rfl, h1, h2, rfl⟩
 have hxl : xs.length ≤ 1048576 := by rw [one xs h1 h2]; exact hA
 refine aB _ uN rfl rfl rfl rfl ⟨rfl, rfl⟩ (fun A w hW => kR yr xs t w ⟨z39, trivial⟩ (by omega)) ?_
 rintro v L ⟨rfl, rfl⟩
 apply CaseB.mk <;> intro g
 · have hn : t ∉ xs := fun hm => by have := (eM xs t).2 hm; have g' := of_decide_eq_true g; omega
   have n : ¬ StepOk p.pure s.pure t := fun e => hn (by rw [h1 e.1]; exact e.2.1)
   refine aP (.joinO [90] (Gs := [_]) ⟨.inr ⟨Nat.le_of_ble_eq_true rfl, eA⟩, trivial⟩ rfl (G := aK StateH.zero) (.of_eq (by simp))) ?_
   refine aP (Shift.pack (G := aK StateH.zero) (fun g hg => kV 0 rfl hg)) ?_
   exact bC [0] ⟨StateH.zero, false, rfl, tno n, fun e => z110, fun _ => rfl, rfl⟩ z151 rfl ⟨rfl, trivial⟩ (fun _ => rfl)
 have hmx : t ∈ xs := (eM xs t).1 (by have g' := of_decide_eq_false g; omega)
 have ft : Fits p.pure s.pure := Classical.byContradiction fun n => by rw [h2 n] at hmx; cases hmx
 have hm : t ∈ cQ s.pure := by rw [← h1 ft]; exact hmx
 obtain ⟨_, k, _, rfl, _⟩ := xL hm
 refine mL { y : StateH // y.pure = doM p.pure s.pure k } (fun y => .mk [(3, .p 0 0), (6, .p 2 0), (8, .p 3 0)] 4 0 [(0, 26, 5), (2, 35, 9), (3, 35, 9)] [((0, 0), .v (p.h0.val p.sems.length)), ((0, 1), .v (p.h1.val p.groups.length)), ((0, 2), .v (p.h2.val p.barriers.length)), ((0, 3), .v (p.h3.val p.rooms.length)), ((0, 4), .v (p.h4.val p.threads.length)), ((3, 0), .v (y.1.h0.val y.1.places.length)), ((3, 1), .v (y.1.h1.val y.1.status.length)), ((3, 2), .v (y.1.h2.val y.1.sems.length)), ((3, 3), .v (y.1.h3.val y.1.onces.length)), ((3, 4), .v (y.1.h4.val y.1.groups.length)), ((3, 5), .v (y.1.h5.val y.1.barriers.length)), ((3, 6), .v (y.1.h6.val y.1.chans.length)), ((3, 7), .v (y.1.h7.val y.1.said.length)), ((3, 8), .v (.int .i64 y.1.fault))] [fN (aK y.1), fR (aV p)]) ?_ ?_
 · refine aE aA z107 z107 z107 200 [((0, 0), .v (p.h0.val p.sems.length)), ((0, 1), .v (p.h1.val p.groups.length)), ((0, 2), .v (p.h2.val p.barriers.length)), ((0, 3), .v (p.h3.val p.rooms.length)), ((0, 4), .v (p.h4.val p.threads.length)), ((1, 0), .v (s.h0.val s.places.length)), ((1, 1), .v (s.h1.val s.status.length)), ((1, 2), .v (s.h2.val s.sems.length)), ((1, 3), .v (s.h3.val s.onces.length)), ((1, 4), .v (s.h4.val s.groups.length)), ((1, 5), .v (s.h5.val s.barriers.length)), ((1, 6), .v (s.h6.val s.chans.length)), ((1, 7), .v (s.h7.val s.said.length)), ((1, 8), .v (.int .i64 s.fault))] [] [] z111 z117 trivial rfl ?_
   refine BothW.mk ?_ ?_
   all_goals
     refine bL _ cl81 rfl rfl rfl rfl ⟨rfl, rfl⟩ (fun A w hW => kT0 s w ⟨hW.get 2 rfl (.refl _), trivial⟩ hs) ?_
     rintro v L ⟨y, rfl, hy, rfl⟩
   refine BothW.mk ?_ ?_
   all_goals
     conv => whnf
     refine mA0 (Shift.splitO 0 (L := qJ y) (G := aK y) (G' := gP y) rfl (nR y)) z105 ?_
     refine lC _ [0, 1, 2, 3, 4, 5, 6, 7, 8] (G := [_, _, _, _, _, _, _, _, _]) cl80 rfl rfl rfl rfl ⟨rfl, rfl⟩ z141 z126 z105 (fun A w hW => (oR0 p y k (by rw [hy]; exact ft) (by rw [hy]; exact hm) w (hW.atG [0, 1, 2, 3, 4, 5, 6, 7, 8] (G := [_, _, _, _, _, _, _, _, _]) z141 rfl z126 [10] (Fo := [_]) z155 rfl))) ?_
     rintro v L ⟨y2, rfl, hy2, rfl⟩
     rw [hy] at hy2
     refine ⟨⟨y2, hy2⟩, ?_⟩
     exact aC [0, 2] zw2 zw0 zw2 zw5 zw4 rfl rfl
 rintro ⟨y2, hy2⟩
 simp only
 apply CaseB.mk <;> intro g
 · have hl : ¬ (doM p.pure s.pure k).said.length ≤ 64 := by
     have g' := of_decide_eq_true g
     rw [← hy2]
     show ¬ y2.said.length ≤ 64
     omega
   have n : ¬ StepOk p.pure s.pure k := fun e => hl e.2.2.1
   refine aP (.joinO [90] (Gs := [_]) ⟨.inr ⟨Nat.le_of_ble_eq_true rfl, eA⟩, trivial⟩ rfl (G := aK StateH.zero) (.of_eq (by simp))) ?_
   refine aP (Shift.pack (G := aK StateH.zero) (fun g hg => kV 0 rfl hg)) ?_
   exact bC [0] ⟨StateH.zero, false, rfl, tno n, fun e => z110, fun _ => rfl, rfl⟩ z151 rfl ⟨rfl, trivial⟩ (fun _ => rfl)
 have hl : (doM p.pure s.pure k).said.length ≤ 64 := by
   have g' := of_decide_eq_false g
   rw [← hy2]
   show y2.said.length ≤ 64
   omega
 refine aB _ cl82 rfl rfl rfl rfl ⟨rfl, rfl⟩ (fun A w hW => tP p y2 w ⟨hW.get 1 rfl (.refl _), hW.get 0 rfl (xQ _), trivial⟩ hp (by rw [hy2]; exact hQ0 ft hm hl)) ?_
 rintro v L ⟨b, rfl, hbb, rfl⟩
 rw [hy2] at hbb
 apply CaseB.mk <;> intro g
 · have n : ¬ StepOk p.pure s.pure k := fun e => by rw [hbb.2 e.2.2.2] at g; cases g
   refine aP (.joinO [90] (Gs := [_]) ⟨.inr ⟨Nat.le_of_ble_eq_true rfl, eA⟩, trivial⟩ rfl (G := aK StateH.zero) (.of_eq (by simp))) ?_
   refine aP (Shift.pack (G := aK StateH.zero) (fun g hg => kV 0 rfl hg)) ?_
   exact bC [0] ⟨StateH.zero, false, rfl, tno n, fun e => z110, fun _ => rfl, rfl⟩ z151 rfl ⟨rfl, trivial⟩ (fun _ => rfl)
 have hok : StepOk p.pure s.pure k := ⟨ft, hm, hl, hbb.1 z103⟩
 exact bC [0] ⟨y2, true, rfl, iZ hok, fun _ => hy2, fun e => z110, rfl⟩ z151 rfl ⟨rfl, trivial⟩ (fun _ => rfl)
theorem Shift.packK {Zs G : List Fct} (k : Nat) (hk : Zs[k]? = some (fO G)) : Shift Zs (fN G :: Zs.eraseIdx k) := by
 intro E A n B M w h
 have hsub := h.sub (kC Zs k)
 have hdj := eR h.dj hk
 have hfk := h.fct _ (List.mem_of_getElem? hk)
 have key : ∀ g ∈ G, Rd (fO G) (Fct.fresh g) := fun g hg => tY (.ofO ⟨g, hg, .refl _⟩)
 have hP : ∀ g' ∈ G.map Fct.fresh, g'.P w := fun g' hg' => by
   obtain ⟨g, hg, rfl⟩ := List.mem_map.1 hg'
   exact (key g hg).p w hfk.1
 have hfoot : ∀ b, (fN G).foot b → (fO G).foot b := by
   rintro b ⟨g', hg', hb⟩
   obtain ⟨g, hg, rfl⟩ := List.mem_map.1 hg'
   exact (key g hg).foot b hb
 refine ⟨h.key, h.inj, h.mem, h.a0, h.n0, h.ext, fun f hf => ?_, ?_⟩
 · rcases List.mem_cons.1 hf with rfl | hf
   · exact ⟨hP, fun b hb => hfk.2.1 b (hfoot b hb), fun _ b hb => hfk.2.2 rfl b (hfoot b hb)⟩
   · exact hsub.fct f hf
 · rw [List.pairwise_cons]
   exact ⟨fun f hf ho b hb hb' => hdj f hf (.inl rfl) b (hfoot b hb) hb', hsub.dj⟩
def RunRS (S : Option State) (v : Value) (L : List Fct) : Prop := ∃ (y : StateH) (z : Sl) (n : Nat) (b : Bool), v = .tuple #[mJ0 y z n, .bool b] ∧ (b = true ↔ S.isSome = true) ∧ L = []
theorem hR0 (p : ProgH) (q : Sl) (tc : List Int) (w : World) (h : At w [fR (aV p), slo q aJ 1 tc]) (hp : p.pure.small20) :
   Calls Tryz.prog 53 #[dJ p, q.val tc.length] w (Ret w (RunRS (replayP p.pure tc))) := by
 have hq := h.2.1
 refine cM Tryz.func53 rfl aA w _ rfl _ rfl _ h ⟨rfl, rfl, rfl, rfl, trivial⟩ _ _ (by decide) ?_
 refine aB _ cl46 rfl rfl rfl rfl ⟨rfl, rfl⟩ (fun A w hW => tV p w ⟨hW.get 0 rfl (.refl _), trivial⟩ (sO hp)) ?_
 rintro v L ⟨y0, b0, rfl, i1, i2, i3, rfl⟩
 apply CaseB.mk <;> intro g
 · have e : b0 = false := by simpa using g
   have n : replayP p.pure tc = none := by
     rw [replayP, if_neg]
     rintro ⟨ok, _⟩
     rw [i1.2 ok] at e; cases e
   rw [n]
   exact aI ⟨StateH.zero, gH, 0, false, rfl, by simp, rfl⟩ (fun _ => rfl)
 have e : b0 = true := by simpa using g
 have ok := i1.1 e
 have hst := i2 e
 apply CaseB.mk <;> intro g
 · have n : replayP p.pure tc = none := by
     rw [replayP, if_neg]
     rintro ⟨_, h⟩
     have g' := of_decide_eq_true g
     omega
   rw [n]
   exact aI ⟨StateH.zero, gH, 0, false, rfl, by simp, rfl⟩ (fun _ => rfl)
 have hl : tc.length ≤ 100 := by have g' := of_decide_eq_false g; omega
 have hR : replayP p.pure tc = replayM p.pure (start p.pure) tc := by rw [replayP, if_pos ⟨ok, hl⟩]
 rw [hR]
 refine LoopW.mk ⟨{ u : Nat × StateH // u.1 ≤ tc.length ∧ replayM p.pure (start p.pure) (tc.take u.1) = some u.2.pure ∧ u.2.pure.small20 },
   fun u => .mk [(1, .v (q.val tc.length)), (2, .p 0 0), (4, .p 1 0), (6, .p 2 0), (8, .v (.int .i64 (u.1.1 : Int)))] 3 0 [(0, 26, 5), (1, 37, 10), (2, 35, 9)] [((0, 0), .v (p.h0.val p.sems.length)), ((0, 1), .v (p.h1.val p.groups.length)), ((0, 2), .v (p.h2.val p.barriers.length)), ((0, 3), .v (p.h3.val p.rooms.length)), ((0, 4), .v (p.h4.val p.threads.length)), ((2, 0), .v (u.1.2.h0.val u.1.2.places.length)), ((2, 1), .v (u.1.2.h1.val u.1.2.status.length)), ((2, 2), .v (u.1.2.h2.val u.1.2.sems.length)), ((2, 3), .v (u.1.2.h3.val u.1.2.onces.length)), ((2, 4), .v (u.1.2.h4.val u.1.2.groups.length)), ((2, 5), .v (u.1.2.h5.val u.1.2.barriers.length)), ((2, 6), .v (u.1.2.h6.val u.1.2.chans.length)), ((2, 7), .v (u.1.2.h7.val u.1.2.said.length)), ((2, 8), .v (.int .i64 u.1.2.fault))] [fN (aK u.1.2), fR (aV p), slo q aJ 1 tc],
   fun u => tc.length - u.1.1, ⟨(0, y0), Nat.zero_le _, by simp [replayM, hst], by rw [hst]; exact lK ok⟩, ?_, ?_⟩
 · refine aO (Shift.packK (G := aK y0) 0 rfl) ?_
   exact aC [0, 1, 2] zw2 zw0 zw2 zw5 zw4 rfl rfl
 rintro ⟨⟨k, yS⟩, hk, hy, hys⟩
 simp only at hk hy hys ⊢
 apply CaseB.mk <;> intro g
 · have hkt : k < tc.length := by simpa using g
   have hw := bE k _ hkt (by omega)
   obtain ⟨t, ht⟩ : ∃ t, t = tc[k] := ⟨_, rfl⟩
   have hsp : tc.take (k + 1) = tc.take k ++ [t] := by rw [ht]; exact List.take_succ_eq_append_getElem hkt
   refine mL { u : StateH × Bool // (u.2 = true ↔ StepOk p.pure yS.pure t) ∧ (u.2 = true → u.1.pure = doM p.pure yS.pure t) } (fun u => .mk [(1, .v (q.val tc.length)), (2, .p 0 0), (4, .p 1 0), (6, .p 2 0), (8, .v (.int .i64 (k : Int))), (9, .p 3 0), (10, .v (.bool u.1.2))] 4 0 [(0, 26, 5), (1, 37, 10), (2, 35, 9), (3, 35, 9)] [((0, 0), .v (p.h0.val p.sems.length)), ((0, 1), .v (p.h1.val p.groups.length)), ((0, 2), .v (p.h2.val p.barriers.length)), ((0, 3), .v (p.h3.val p.rooms.length)), ((0, 4), .v (p.h4.val p.threads.length)), ((3, 0), .v (u.1.1.h0.val u.1.1.places.length)), ((3, 1), .v (u.1.1.h1.val u.1.1.status.length)), ((3, 2), .v (u.1.1.h2.val u.1.1.sems.length)), ((3, 3), .v (u.1.1.h3.val u.1.1.onces.length)), ((3, 4), .v (u.1.1.h4.val u.1.1.groups.length)), ((3, 5), .v (u.1.1.h5.val u.1.1.barriers.length)), ((3, 6), .v (u.1.1.h6.val u.1.1.chans.length)), ((3, 7), .v (u.1.1.h7.val u.1.1.said.length)), ((3, 8), .v (.int .i64 u.1.1.fault))] [fN (aK u.1.1), fR (aV p), slo q aJ 1 tc]) ?_ ?_
   · refine aE aA z107 z107 z107 200 [((0, 0), .v (p.h0.val p.sems.length)), ((0, 1), .v (p.h1.val p.groups.length)), ((0, 2), .v (p.h2.val p.barriers.length)), ((0, 3), .v (p.h3.val p.rooms.length)), ((0, 4), .v (p.h4.val p.threads.length)), ((2, 0), .v (yS.h0.val yS.places.length)), ((2, 1), .v (yS.h1.val yS.status.length)), ((2, 2), .v (yS.h2.val yS.sems.length)), ((2, 3), .v (yS.h3.val yS.onces.length)), ((2, 4), .v (yS.h4.val yS.groups.length)), ((2, 5), .v (yS.h5.val yS.barriers.length)), ((2, 6), .v (yS.h6.val yS.chans.length)), ((2, 7), .v (yS.h7.val yS.said.length)), ((2, 8), .v (.int .i64 yS.fault))] [2] [_] z111 z117 ⟨rfl, trivial⟩ rfl ?_
     refine bM (ti := aU tab) aD aA rfl rfl rfl rfl rfl ⟨rfl, rfl⟩ z40 k rfl z48 (fun ad => ?_)
     rw [← ht]
     refine BothW.mk ?_ ?_
     all_goals
       refine bL _ cl29 rfl rfl rfl rfl ⟨rfl, rfl⟩ (fun A w hW => rY p yS t w ⟨hW.get 1 rfl (.refl _), hW.get 0 rfl (xQ _), trivial⟩ hp hys) ?_
       rintro v L ⟨y3, b2, rfl, j1, j2, j3, rfl⟩
       refine ⟨⟨(y3, b2), j1, j2⟩, ?_⟩
       exact aC [0, 2, 3] zw2 zw0 zw2 zw5 zw4 rfl rfl
   rintro ⟨⟨y3, b2⟩, j1, j2⟩
   simp only at j1 j2 ⊢
   apply CaseB.mk <;> intro g
   · have n : replayM p.pure (start p.pure) tc = none := by
       have e : b2 = false := by simpa using g
       have hn : ¬ StepOk p.pure yS.pure t := fun h => by rw [j1.2 h] at e; cases e
       have h1 : replayM p.pure (start p.pure) (tc.take (k + 1)) = none := by
         rw [hsp, kK, hy]; simp only [if_neg hn]
       have := pE p.pure (start p.pure) (tc.take (k + 1)) (tc.drop (k + 1)) h1
       rwa [List.take_append_drop] at this
     rw [n]
     exact aI ⟨StateH.zero, gH, 0, false, rfl, by simp, rfl⟩ (fun _ => rfl)
   have e2 : b2 = true := by simpa using g
   have hok := j1.1 e2
   have hy3 := j2 e2
   refine ⟨⟨(k + 1, y3), hkt, by rw [hsp, kK, hy]; simp only [if_pos hok, hy3], by rw [hy3]; exact hok.2.2.2.small⟩, ?_, by simp only; omega⟩
   exact aC [0, 1, 2] zw1 zw0 zw1 zw5 zw3 rfl rfl
 have hge : tc.length ≤ k := by simpa using g
 rw [List.take_of_length_le hge] at hy
 rw [hy]
 refine aE aA z107 z107 z107 200 [((2, 0), .v (yS.h0.val yS.places.length)), ((2, 1), .v (yS.h1.val yS.status.length)), ((2, 2), .v (yS.h2.val yS.sems.length)), ((2, 3), .v (yS.h3.val yS.onces.length)), ((2, 4), .v (yS.h4.val yS.groups.length)), ((2, 5), .v (yS.h5.val yS.barriers.length)), ((2, 6), .v (yS.h6.val yS.chans.length)), ((2, 7), .v (yS.h7.val yS.said.length)), ((2, 8), .v (.int .i64 yS.fault))] [2] [_] z115 z125 ⟨rfl, trivial⟩ rfl ?_
 repeat' ((conv => whnf); (first
   | refine BothW.mk ?_ ?_
   | refine AllSl.mk fun y => ?_
   | (refine nH rfl rfl ?_; refine lN (ti := aU tab) aD aA (xs := ([] : List Int)) rfl rfl rfl rfl rfl rfl rfl rfl rfl (by decide) ⟨rfl, rfl⟩ z44 z40 z48 z48 z105 (fun y => ?_))
   | fail))
 all_goals
   exact aI ⟨yS, _, _, true, rfl, by simp, rfl⟩ (fun _ => rfl)
theorem xR (p : Prog) : ∀ (s : State) (tc : List Int), (replayM p s tc).isSome = true → ∀ t ∈ tc, 0 ≤ t ∧ t < (p.threads.length : Int)
 | s, [], _, t, ht => by cases ht
 | s, x :: r, h, t, ht => by
   simp only [replayM] at h
   split at h
   · rename_i hx
     rcases List.mem_cons.1 ht with rfl | ht
     · obtain ⟨k, ops, a, st, op, rfl, rr⟩ := rdy hx.1 hx.2.1
       have := rr.kn
       omega
     · exact xR p _ r h t ht
   · cases h
theorem sP {p : Prog} {tc : List Int} (h : (replayP p tc).isSome = true) : tc.length ≤ 100 ∧ p.threads.length ≤ 4 ∧ ∀ t ∈ tc, 0 ≤ t ∧ t < (p.threads.length : Int) := by
 rw [replayP] at h
 split at h
 · rename_i hc; exact ⟨hc.2, hc.1.n4, xR p _ _ h⟩
 · cases h
def oO (l : List Int) (t : Int) : List Int := l.set t.toNat (l.getD t.toNat 0 + 1)
def tZ (n : Nat) (tc : List Int) : List Int := tc.foldl oO (List.replicate n 0)
theorem zP (n : Nat) (tc : List Int) {k : Nat} (hk : k < tc.length) : tZ n (tc.take (k + 1)) = oO (tZ n (tc.take k)) tc[k] := by
 rw [List.take_succ_eq_append_getElem hk, tZ, List.foldl_append]; rfl
theorem qL (n : Nat) (tc : List Int) : (tZ n tc).length = n := by
 have : ∀ (tc l : List Int), (tc.foldl oO l).length = l.length := by
   intro tc
   induction tc with
   | nil => intro l; rfl
   | cons x r ih => intro l; simp only [List.foldl_cons]; rw [ih]; simp [oO]
 rw [tZ, this]; simp
def kU0 (p : Prog) (tc : List Int) (v : Value) (L : List Fct) : Prop := ∃ (z : Sl) (xs : List Int) (b : Bool), v = .tuple #[z.val xs.length, .bool b] ∧ (b = true ↔ (replayP p tc).isSome = true) ∧ (b = true → xs = tZ p.threads.length tc) ∧ (b = false → xs = []) ∧ L = [own z 3 aJ 1 xs]
theorem bM0 (p : ProgH) (q : Sl) (tc : List Int) (w : World) (h : At w [fR (aV p), slo q aJ 1 tc]) (hp : p.pure.small20) :
   Calls Tryz.prog 36 #[dJ p, q.val tc.length] w (Ret w (kU0 p.pure tc)) := by
 have lt : p.pure.threads.length = p.threads.length := by simp [ProgH.pure]
 refine cM Tryz.func36 rfl aA w _ rfl _ rfl _ h ⟨rfl, rfl, rfl, rfl, trivial⟩ _ _ (by decide) ?_
 refine aB _ cl56 rfl rfl rfl rfl ⟨rfl, rfl⟩ (fun A w hW => kL0 p q tc w ⟨hW.get 0 rfl (.refl _), hW.get 1 rfl (.refl _), trivial⟩ hp) ?_
 rintro v L ⟨y, z0, tr, b, rfl, hb, hb2, rfl⟩
 apply CaseB.mk <;> intro g
 · have e : b = false := by simpa using g
   exact bC [99] ⟨gH, [], false, rfl, ⟨fun e => z110, fun h => by rw [hb.2 h] at e; cases e⟩, fun e => z110, fun _ => rfl, rfl⟩ z138 rfl ⟨rfl, trivial⟩ (fun _ => rfl)
 have e : b = true := by simpa using g
 have hs := hb.1 e
 obtain ⟨hl, n4, hin⟩ := sP hs
 rw [lt] at n4 hin
 refine qX aD (0 : Int) aA rfl rfl rfl rfl rfl (by decide) ⟨rfl, rfl⟩ p.threads.length rfl z48 z48 (fun y2 => ?_)
 refine LoopW.mk ⟨{ u : Nat × List Int // u.1 ≤ tc.length ∧ u.2 = tZ p.threads.length (tc.take u.1) ∧ ∀ a ∈ u.2, 0 ≤ a ∧ a ≤ (u.1 : Int) },
   fun u => .mk [(2, .p 0 0), (8, .v (y2.val u.1.2.length)), (23, .v (q.val tc.length)), (24, .v (.int .i64 (tc.length : Int))), (25, .v (.int .i64 (u.1.1 : Int)))] 2 0 [(0, 26, 5)] [] [own y2 3 aJ 1 u.1.2, slo q aJ 1 tc],
   fun u => tc.length - u.1.1, ⟨(0, List.replicate p.threads.length 0), Nat.zero_le _, rfl, fun a ha => by have := List.eq_of_mem_replicate ha; omega⟩, ?_, ?_⟩
 · exact aC [0, 4] zw13 zw0 zw13 zw5 zw31 rfl rfl
 rintro ⟨⟨k, out⟩, hk, ho, hbd⟩
 simp only at hk ho hbd ⊢
 have hol : out.length = p.threads.length := by rw [ho, qL]
 apply CaseB.mk <;> intro g
 · have hkt : k < tc.length := by simpa using g
   have hw := bE k _ hkt (by omega)
   obtain ⟨t0, t1⟩ := hin _ (List.getElem_mem hkt)
   obtain ⟨j, hj⟩ : ∃ j : Nat, tc[k] = (j : Int) := ⟨_, (Int.toNat_of_nonneg t0).symm⟩
   have hjl : j < out.length := by omega
   have hcj := hbd _ (List.getElem_mem hjl)
   have hwr : IntKind.i64.wrap (out[j] + 1) = out[j] + 1 := by rw [IntKind.wrap_i64]; omega
   have hnext : tZ p.threads.length (tc.take (k + 1)) = out.set j (out[j] + 1) := by
     rw [zP _ _ hkt, ← ho, hj, oO, Int.toNat_natCast, List.getD_eq_getElem?_getD, List.getElem?_eq_getElem hjl]; rfl
   refine aG aD aA rfl rfl rfl rfl rfl ⟨rfl, rfl⟩ z40 k rfl z48 (fun ad => ?_)
   refine aG aD aA rfl rfl rfl rfl rfl ⟨rfl, rfl⟩ (aL 0 rfl (Rd.own (o := false) (o' := false))) j hj z48 (fun ad2 => ?_)
   refine cE aD 0 aA rfl rfl rfl rfl rfl ⟨rfl, rfl⟩ rfl z94 j hj z48 (fun g1 hg1 => ?_)
   refine bP aD 0 aA rfl rfl rfl rfl rfl rfl rfl rfl hg1 j 0 (out[j] + 1) rfl hjl rfl [.int .i64 (out[j] + 1)] (fun _ => by simp [SV.den, hwr]) rfl ?_
   refine ⟨⟨(k + 1, out.set j (out[j] + 1)), hkt, hnext.symm, fun a ha => ?_⟩, ?_, by simp only; omega⟩
   · have := zK (B := (k : Int)) hbd hjl a ha
     simp only; omega
   · exact aC [0, 1] zw11 zw0 zw11 zw5 zw30 rfl rfl
 have hge : tc.length ≤ k := by simpa using g
 rw [List.take_of_length_le hge] at ho
 exact bC [0] ⟨y2, out, true, rfl, ⟨fun _ => hs, fun _ => rfl⟩, fun _ => by rw [lt]; exact ho, fun e => z110, rfl⟩ z151 rfl ⟨rfl, trivial⟩ (fun _ => rfl)
theorem yF (p : ProgH) (q : Sl) (tc : List Int) (w : World) (h : At w [fR (aV p), slo q aJ 1 tc]) (hp : p.pure.small20) :
   Calls Tryz.prog 37 #[dJ p, q.val tc.length] w (Ret w (kU0 p.pure tc)) := by
 have lt : p.pure.threads.length = p.threads.length := by simp [ProgH.pure]
 refine cM Tryz.func37 rfl aA w _ rfl _ rfl _ h ⟨rfl, rfl, rfl, rfl, trivial⟩ _ _ (by decide) ?_
 refine aB _ cl53 rfl rfl rfl rfl ⟨rfl, rfl⟩ (fun A w hW => hR0 p q tc w ⟨hW.get 0 rfl (.refl _), hW.get 1 rfl (.refl _), trivial⟩ hp) ?_
 rintro v L ⟨y, z0, m0, b, rfl, hb, rfl⟩
 apply CaseB.mk <;> intro g
 · have e : b = false := by simpa using g
   refine AllSl.mk fun z1 => ?_
   exact bC [0] ⟨z1, [], false, rfl, ⟨fun e => z110, fun h => by rw [hb.2 h] at e; cases e⟩, fun e => z110, fun _ => rfl, rfl⟩ z151 rfl ⟨rfl, trivial⟩ (fun _ => rfl)
 have e : b = true := by simpa using g
 have hs := hb.1 e
 obtain ⟨hl, n4, hin⟩ := sP hs
 rw [lt] at n4 hin
 refine qX aD (0 : Int) aA rfl rfl rfl rfl rfl (by decide) ⟨rfl, rfl⟩ p.threads.length rfl z48 z48 (fun y2 => ?_)
 refine LoopW.mk ⟨{ u : Nat × List Int // u.1 ≤ tc.length ∧ u.2 = tZ p.threads.length (tc.take u.1) ∧ ∀ a ∈ u.2, 0 ≤ a ∧ a ≤ (u.1 : Int) },
   fun u => .mk [(1, .v (q.val tc.length)), (2, .p 0 0), (8, .v (y2.val u.1.2.length)), (9, .v (.int .i64 (u.1.1 : Int)))] 2 0 [(0, 26, 5)] [] [own y2 3 aJ 1 u.1.2, slo q aJ 1 tc],
   fun u => tc.length - u.1.1, ⟨(0, List.replicate p.threads.length 0), Nat.zero_le _, rfl, fun a ha => by have := List.eq_of_mem_replicate ha; omega⟩, ?_, ?_⟩
 · exact aC [0, 2] zw13 zw0 zw13 zw5 zw31 rfl rfl
 rintro ⟨⟨k, out⟩, hk, ho, hbd⟩
 simp only at hk ho hbd ⊢
 have hol : out.length = p.threads.length := by rw [ho, qL]
 apply CaseB.mk <;> intro g
 · have hkt : k < tc.length := by simpa using g
   have hw := bE k _ hkt (by omega)
   obtain ⟨t0, t1⟩ := hin _ (List.getElem_mem hkt)
   obtain ⟨j, hj⟩ : ∃ j : Nat, tc[k] = (j : Int) := ⟨_, (Int.toNat_of_nonneg t0).symm⟩
   have hjl : j < out.length := by omega
   have hcj := hbd _ (List.getElem_mem hjl)
   have hwr : IntKind.i64.wrap (out[j] + 1) = out[j] + 1 := by rw [IntKind.wrap_i64]; omega
   have hnext : tZ p.threads.length (tc.take (k + 1)) = out.set j (out[j] + 1) := by
     rw [zP _ _ hkt, ← ho, hj, oO, Int.toNat_natCast, List.getD_eq_getElem?_getD, List.getElem?_eq_getElem hjl]; rfl
   refine fJ 0 rfl (show 0 < out.length by omega) fun gg hgg _ _ => ?_
   refine aE aA z107 z107 z107 200 [] [1] [_] trivial trivial ⟨rfl, trivial⟩ rfl ?_
   refine bM (ti := aU tab) aD aA rfl rfl rfl rfl rfl ⟨rfl, rfl⟩ z40 k rfl z48 (fun ad1 => ?_)
   refine bM (ti := aU tab) aD aA rfl rfl rfl rfl rfl ⟨rfl, rfl⟩ z40 k rfl z48 (fun ad2 => ?_)
   refine iA (ti := aU tab) aA rfl rfl rfl rfl rfl ⟨rfl, rfl⟩ hgg j hj hjl ?_
   refine aU0 (ti := aU tab) aD 0 aA rfl rfl rfl ⟨rfl, rfl⟩ rfl hgg j 0 rfl hjl rfl ?_
   refine iA (ti := aU tab) aA rfl rfl rfl rfl rfl ⟨rfl, rfl⟩ hgg j hj hjl ?_
   refine fK (ti := aU tab) aD 0 aA rfl rfl rfl rfl rfl rfl rfl rfl hgg j 0 (out[j] + 1) rfl hjl rfl [.int .i64 (out[j] + 1)] (fun _ => by simp [SV.den, hwr]) rfl z105 ?_
   refine ⟨⟨(k + 1, out.set j (out[j] + 1)), hkt, hnext.symm, fun a ha => ?_⟩, ?_, by simp only; omega⟩
   · have := zK (B := (k : Int)) hbd hjl a ha
     simp only; omega
   · exact aC [0, 1] zw11 zw0 zw11 zw5 zw30 rfl rfl
 have hge : tc.length ≤ k := by simpa using g
 rw [List.take_of_length_le hge] at ho
 exact bC [0] ⟨y2, out, true, rfl, ⟨fun _ => hs, fun _ => rfl⟩, fun _ => by rw [lt]; exact ho, fun e => z110, rfl⟩ z151 rfl ⟨rfl, trivial⟩ (fun _ => rfl)
structure Keep (op : Op) (s s1 : State) : Prop where
 pl : s1.places = s.places
 st : s1.status = s.status
 fa : s1.fault = s.fault
 se : s1.sems = s.sems ∨ (op.kind = 2 ∨ op.kind = 3) ∧ ∃ x, s1.sems = s.sems.set op.on.toNat x
 ba : s1.barriers = s.barriers ∨ ∃ x, s1.barriers = s.barriers.set op.on.toNat x ∧ x.round ≤ (iQ s op).round + 1
def kV0 (op : Op) (s s1 : State) : Prop := (s1.said = s.said ∧ op.kind ≠ 1) ∨ ∃ v, s1.said = s.said ++ [v] ∧ ((op.kind = 1 ∨ op.kind = 8) ∧ v = op.arg ∨ op.kind = 9)
inductive Stp (p : Prog) (s : State) (k : Nat) (st : Int) (op : Op) : State → Prop where
 | on (s1 : State) (who : List Int) : Keep op s s1 → kV0 op s s1 → who.Nodup → (∀ u ∈ who, aN (bH s) u ≠ []) → Stp p s k st op (onM p (who ++ [(k : Int)]) s1)
 | wait (s1 : State) (b : Int) : Keep op s s1 → s1.said = s.said → op.kind ≠ 1 → (b = 1 ∨ b = 2 ∧ st = 0) → Stp p s k st op (bB s1 k b)
 | fault (f : Int) : f ≠ 0 → op.kind ≠ 1 → Stp p s k st op (fZ s f)
theorem zQ {m : Once} (h : eG m) : m.waits.Nodup := by
 rcases h with h | h | h
 · rw [h.2.2.2]; exact List.nodup_nil
 · exact fP h.2.2.2.1
 · rw [h.2.2.2]; exact List.nodup_nil
theorem Rdy.stp {p : Prog} {s : State} {k : Nat} {ops : List Op} {a st : Int} {op : Op} (r : Rdy p s k ops a st op) (hw : ¬ rL p s k) : Stp p s k st op (doM p s k) := by
 have hst : s.status.getD (k : Int).toNat 0 = st := by rw [Int.toNat_natCast, List.getD_eq_getElem?_getD, r.h3]; rfl
 rw [rL, r.at_] at hw
 rw [doM, r.at_, dD]
 by_cases k1 : op.kind = 1
 · rw [if_pos k1]
   exact .on (jX s op.arg) [] z150 (.inr ⟨_, rfl, .inl ⟨.inl k1, rfl⟩⟩) List.nodup_nil (fun u hu => by cases hu)
 by_cases k2 : op.kind = 2
 · rw [if_neg k1, if_pos k2, jS]
   split
   · exact .on (setSem s op _) [] ⟨rfl, rfl, rfl, .inr ⟨.inl k2, _, rfl⟩, .inl rfl⟩ (.inl ⟨rfl, k1⟩) List.nodup_nil (fun u hu => by cases hu)
   · exact .wait (setSem s op _) 1 ⟨rfl, rfl, rfl, .inr ⟨.inl k2, _, rfl⟩, .inl rfl⟩ rfl k1 (.inl rfl)
 by_cases k3 : op.kind = 3
 · rw [if_neg k1, if_neg k2, if_pos k3, iR]
   obtain ⟨x, hx, hxa, ok, a1, a2, hi⟩ := r.sem (.inr k3)
   rw [hxa, Sem.release]
   by_cases hc : op.arg ≤ x.limit - x.free
   · rw [if_pos hc]
     have f0 := ok.f0
     obtain ⟨n, i1, i2, i3, i4, i5⟩ := tR x.queue (x.free + op.arg) (by omega) (fun w hw => (ok.cnt w hw).1)
     simp only [i1, i2]
     exact Stp.on (p := p) (s := s) (k := k) (st := st) (op := op) (setSem s op ⟨(dV (x.free + op.arg) x.queue).1, x.limit, x.queue.drop n⟩) ((x.queue.take n).map (·.t)) ⟨rfl, rfl, rfl, .inr ⟨.inr k3, _, rfl⟩, .inl rfl⟩ (.inl ⟨rfl, k1⟩) ((fP ok.dis).sublist ((List.take_sublist _ _).map _)) (fun u hu h0 => aZ.1 ((kS hx x).none h0) (((List.take_sublist _ _).map _).subset hu))
   · rw [if_neg hc]
     exact .fault 1 (by decide) k1
 by_cases k4 : op.kind = 4
 · rw [if_neg k1, if_neg k2, if_neg k3, if_pos k4, kJ, hst]
   obtain ⟨x, hx, hxa, ok, hv, hi⟩ := r.once k4
   rw [hxa]
   by_cases h2 : st = 2
   · rw [if_pos h2]
     exact .on (setOnce s op (x.finish k op.arg).1) x.waits z150 (.inl ⟨rfl, k1⟩) (zQ ok) (fun u hu h0 => (aZ (g := fun t : Int => t)).1 ((mZ hx x).none h0) z99)
   have h0 : st = 0 := by
     rcases r.ow with ⟨e, _⟩ | ⟨e, _⟩
     · exact e
     · exact (h2 e).elim
   rw [if_neg h2]
   split
   · exact .wait (setOnce s op _) 2 z150 rfl k1 (.inr ⟨rfl, h0⟩)
   split
   · exact .wait (setOnce s op _) 1 z150 rfl k1 (.inl rfl)
   · exact .on (setOnce s op _) [] z150 (.inl ⟨rfl, k1⟩) List.nodup_nil (fun u hu => by cases hu)
 by_cases k5 : op.kind = 5
 · rw [if_neg k1, if_neg k2, if_neg k3, if_neg k4, if_pos k5, tQ]
   obtain ⟨x, hx, hxa, ⟨ok1, ok2, ok3⟩, ha, hi⟩ := r.group (.inl k5)
   rw [hxa, Group.add]
   by_cases hc : aW (x.count + op.arg) = true
   · rw [if_pos hc]
     by_cases h0 : x.count + op.arg = 0
     · rw [if_pos h0]
       exact .on (setGroup s op ⟨0, []⟩) x.waits z150 (.inl ⟨rfl, k1⟩) (fP ok2) (fun u hu h0 => (aZ (g := fun t : Int => t)).1 ((iG hx x).none h0) z99)
     · rw [if_neg h0]
       exact .on (setGroup s op ⟨x.count + op.arg, x.waits⟩) [] z150 (.inl ⟨rfl, k1⟩) List.nodup_nil (fun u hu => by cases hu)
   · rw [if_neg hc]
     exact .fault 2 (by decide) k1
 by_cases k6 : op.kind = 6
 · rw [if_neg k1, if_neg k2, if_neg k3, if_neg k4, if_neg k5, if_pos k6, qF]
   split
   · exact .on (setGroup s op _) [] z150 (.inl ⟨rfl, k1⟩) List.nodup_nil (fun u hu => by cases hu)
   · exact .wait (setGroup s op _) 1 z150 rfl k1 (.inl rfl)
 by_cases k7 : op.kind = 7
 · rw [if_neg k1, if_neg k2, if_neg k3, if_neg k4, if_neg k5, if_neg k6, if_pos k7, gT]
   obtain ⟨x, hx, hxa, ok, hi⟩ := r.barrier k7
   rw [hxa, Barrier.arrive] at hw ⊢
   by_cases hc : (x.waits.length : Int) + 1 < x.parties
   · rw [if_pos hc]
     exact .wait (setBarrier s op ⟨x.parties, x.round, x.waits ++ [(k : Int)]⟩) 1 ⟨rfl, rfl, rfl, .inl rfl, .inr ⟨_, rfl, by rw [hxa]; show x.round ≤ x.round + 1; omega⟩⟩ rfl k1 (.inl rfl)
   rw [if_neg hc] at hw ⊢
   by_cases h9 : x.round = 9999
   · exact (hw ⟨k7, if_pos h9⟩).elim
   rw [if_neg h9]
   have hne : ¬ x.waits ++ [(k : Int)] = [] := by simp
   simp only [if_neg hne]
   exact .on (setBarrier s op ⟨x.parties, x.round + 1, []⟩) x.waits ⟨rfl, rfl, rfl, .inl rfl, .inr ⟨_, rfl, by rw [hxa]; exact Int.le_refl _⟩⟩ (.inl ⟨rfl, k1⟩) (fP ok.2.2.2.2.2) (fun u hu h0 => (aZ (g := fun t : Int => t)).1 ((kZ hx x).none h0) z99)
 by_cases k8 : op.kind = 8
 · rw [if_neg k1, if_neg k2, if_neg k3, if_neg k4, if_neg k5, if_neg k6, if_neg k7, if_pos k8, lR]
   obtain ⟨x, hx, hxa, hv, hval, hi⟩ := r.chan (by omega)
   rw [hxa]
   by_cases hc : (x.send k op.arg).2.2.2 = true
   · obtain ⟨_, c1, c2, c3, c4⟩ := bA0 hc
     rw [if_pos hc]
     have hsd : x.send k op.arg = if h : 0 < x.getters.length then ({ x with getters := x.getters.drop 1 }, [x.getters[0]], true, true) else if (x.items.length : Int) < x.room then ({ x with items := x.items ++ [op.arg] }, [], true, true) else ({ x with senders := x.senders ++ [⟨(k : Int), op.arg⟩] }, [], false, true) := by
       rw [Chan.send, if_pos ⟨hv, c1, c2, c3, c4⟩]
     rw [hsd]
     by_cases hg : 0 < x.getters.length
     · simp only [dif_pos hg, if_true]
       rw [if_neg (by simp)]
       exact .on (jX (setChan s op { x with getters := x.getters.drop 1 }) op.arg) [x.getters[0]] z150 (.inr ⟨_, rfl, .inl ⟨.inr k8, rfl⟩⟩) (by simp) (fun u hu h0 => nB ((eW hx x).none h0) (List.mem_append_right _ (by rw [List.mem_singleton.1 hu]; exact List.getElem_mem hg)))
     · simp only [dif_neg hg]
       by_cases hr : (x.items.length : Int) < x.room
       · simp only [if_pos hr, if_true]
         exact .on (setChan s op { x with items := x.items ++ [op.arg] }) [] z150 (.inl ⟨rfl, k1⟩) List.nodup_nil (fun u hu => by cases hu)
       · simp only [if_neg hr, Bool.false_eq_true, if_false]
         exact .wait (setChan s op _) 1 z150 rfl k1 (.inl rfl)
   · rw [if_neg hc]
     exact .fault 3 (by decide) k1
 by_cases k9 : op.kind = 9
 · rw [if_neg k1, if_neg k2, if_neg k3, if_neg k4, if_neg k5, if_neg k6, if_neg k7, if_neg k8, if_pos k9, rX]
   obtain ⟨x, hx, hxa, hv, hval, hi⟩ := r.chan (by omega)
   rw [hxa]
   have hok : x.Valid ∧ bA (k : Int) = true ∧ ¬ (k : Int) ∈ x.threads := ⟨hv, r.thr, nB ((eW hx x).none r.ev)⟩
   have hsd : x.get k = if 0 < x.gItems.length then ({ x with items := x.gItems.drop 1, senders := x.senders.drop 1 }, x.gItems.headD 0, 1, x.gWho, true) else if x.closed = true then ({ x with items := [], senders := [] }, 0, 2, [], true) else ({ x with items := [], senders := [], getters := x.getters ++ [(k : Int)] }, 0, 0, [], true) := by
     rw [Chan.get, if_pos hok]
   rw [hsd]
   by_cases hc : 0 < x.gItems.length
   · simp only [if_pos hc]
     rw [if_neg (by decide), if_pos trivial]
     exact .on (jX (setChan s op { x with items := x.gItems.drop 1, senders := x.senders.drop 1 }) (x.gItems.headD 0)) x.gWho z150 (.inr ⟨_, rfl, .inr k9⟩) ((tS hv).1.sublist ((List.take_sublist _ _).map _)) (fun u hu h0 => nB ((eW hx x).none h0) (List.mem_append_left _ (((List.take_sublist _ _).map _).subset hu)))
   · simp only [if_neg hc]
     by_cases hcl : x.closed = true
     · simp only [if_pos hcl]
       rw [if_neg (by decide), if_neg (by decide)]
       exact .on (setChan s op { x with items := [], senders := [] }) [] z150 (.inl ⟨rfl, k1⟩) List.nodup_nil (fun u hu => by cases hu)
     · simp only [if_neg hcl]
       rw [if_pos trivial]
       exact .wait (setChan s op _) 1 z150 rfl k1 (.inl rfl)
 rw [if_neg k1, if_neg k2, if_neg k3, if_neg k4, if_neg k5, if_neg k6, if_neg k7, if_neg k8, if_neg k9, mC]
 have h10 := r.ok.2.1
 have h11 := r.ok.1
 obtain ⟨x, hx, hxa, hv, hval, hi⟩ := r.chan (by omega)
 rw [hxa]
 by_cases hc : x.close.2.2 = true
 · obtain ⟨_, c1, c2⟩ := xJ hc
   rw [if_pos hc]
   have hsd : x.close = ({ x with senders := [], getters := [], closed := true }, x.getters, true) := by
     rw [Chan.close, if_pos ⟨hv, c1, c2⟩]
   rw [hsd]
   exact .on (setChan s op { x with senders := [], getters := [], closed := true }) x.getters z150 (.inl ⟨rfl, k1⟩) (tS hv).2 (fun u hu h0 => nB ((eW hx x).none h0) (List.mem_append_right _ hu))
 · rw [if_neg hc]
   exact .fault 4 (by decide) k1
theorem Rdy.who {p : Prog} {s : State} {k : Nat} {ops : List Op} {a st : Int} {op : Op} (r : Rdy p s k ops a st op) {who : List Int} (nd : who.Nodup) (hw : ∀ u ∈ who, aN (bH s) u ≠ []) : (who ++ [(k : Int)]).Nodup ∧ ∀ x ∈ who ++ [(k : Int)], 0 ≤ x := by
 refine ⟨?_, fun x hx => ?_⟩
 · rw [List.nodup_append]
   exact ⟨nd, by simp, fun x hx y hy => by simp at hy; subst hy; rintro rfl; exact hw _ hx r.ev⟩
 · rcases List.mem_append.1 hx with hx | hx
   · exact (r.ft.isIn (hw x hx)).1
   · simp at hx; omega
theorem Rdy.self {p : Prog} {s : State} {k : Nat} {ops : List Op} {a st : Int} {op : Op} (r : Rdy p s k ops a st op) {s' : State} (h : Stp p s k st op s') :
   (s'.fault ≠ 0 ∧ { s' with fault := 0 } = s ∧ s'.status[k]? = some st ∧ op.kind ≠ 1) ∨ (s'.fault = 0 ∧ s'.places[k]? = some (a + 1) ∧ (s'.status[k]? = some 0 ∨ s'.status[k]? = some 3)) ∨
   (s'.fault = 0 ∧ s'.places = s.places ∧ s'.said = s.said ∧ op.kind ≠ 1 ∧ (s'.status[k]? = some 1 ∨ s'.status[k]? = some 2 ∧ st = 0)) := by
 have hk : k < s.status.length := (List.getElem?_eq_some_iff.1 r.h3).1
 cases h with
 | on s1 who hK hs nd hw =>
   obtain ⟨nd2, h0⟩ := r.who nd hw
   have P := mX p _ s1 nd2 h0 k
   have S := pB p _ s1 nd2 h0 k
   obtain ⟨pl, st', hE, _, _⟩ := mY p (who ++ [(k : Int)]) s1
   rw [if_pos (by simp), hK.pl, r.h2] at P
   rw [if_pos (by simp), hK.st, r.h3] at S
   refine .inr (.inl ⟨by rw [hE]; show s1.fault = 0; rw [hK.fa]; exact r.f, P, ?_⟩)
   rw [S]
   simp only [Option.map_some, lW]
   split
   · exact .inr rfl
   · exact .inl rfl
 | wait s1 b hK hs h1 hb =>
   refine .inr (.inr ⟨by show s1.fault = 0; rw [hK.fa]; exact r.f, hK.pl, hs, h1, ?_⟩)
   have e : (bB s1 k b).status[k]? = some b := by simp [bB, hK.st, hk]
   rw [e]
   rcases hb with rfl | ⟨rfl, h⟩
   · exact .inl rfl
   · exact .inr ⟨rfl, h⟩
 | fault f hf h1 =>
   refine .inl ⟨hf, ?_, r.h3, h1⟩
   have := r.f
   cases s
   simp only [fZ] at this ⊢
   subst this
   rfl
theorem Rdy.others {p : Prog} {s : State} {k : Nat} {ops : List Op} {a st : Int} {op : Op} (r : Rdy p s k ops a st op) {s' : State} (h : Stp p s k st op s') (u : Nat) (hu : u < p.threads.length) (hn : u ≠ k) :
   (s'.places[u]? = s.places[u]? ∧ s'.status[u]? = s.status[u]?) ∨ (s.status[u]? = some 1 ∧ s'.places[u]? = s.places[u]?.map (· + 1) ∧ (s'.status[u]? = some 0 ∨ s'.status[u]? = some 3)) := by
 have hup : u < s.places.length := by rw [r.ft.np]; exact hu
 have hus : u < s.status.length := by rw [r.ft.ns]; exact hu
 have g1 : p.threads[u]? = some p.threads[u] := List.getElem?_eq_getElem hu
 have g2 : s.places[u]? = some s.places[u] := List.getElem?_eq_getElem hup
 have g3 : s.status[u]? = some s.status[u] := List.getElem?_eq_getElem hus
 have hn' : ¬ (u : Int) = k := by omega
 cases h with
 | on s1 who hK hs nd hw =>
   obtain ⟨nd2, h0⟩ := r.who nd hw
   have P := mX p _ s1 nd2 h0 u
   have S := pB p _ s1 nd2 h0 u
   rw [hK.pl] at P
   rw [hK.st] at S
   by_cases hm : (u : Int) ∈ who
   · rw [if_pos (List.mem_append_left _ hm)] at P S
     refine .inr ⟨?_, P, ?_⟩
     · rw [g3, (r.ft.waiting g1 g2 g3 (hw _ hm)).2.2]
     · rw [S, g3]
       simp only [Option.map_some, lW]
       split
       · exact .inr rfl
       · exact .inl rfl
   · have hm2 : ¬ (u : Int) ∈ who ++ [(k : Int)] := by simp [hm, hn']
     rw [if_neg hm2] at P S
     exact .inl ⟨P, S⟩
 | wait s1 b hK hs h1 hb =>
   refine .inl ⟨by show s1.places[u]? = _; rw [hK.pl], ?_⟩
   have e : ¬ k = u := fun e => hn e.symm
   simp [bB, hK.st, e]
 | fault f hf h1 => exact .inl ⟨rfl, rfl⟩
theorem Stp.said {p : Prog} {s : State} {k : Nat} {st : Int} {op : Op} {s' : State} (h : Stp p s k st op s') : kV0 op s s' := by
 cases h with
 | on s1 who hK hs nd hw =>
   rw [kV0, qI]
   exact hs
 | wait s1 b hK hs h1 hb => exact .inl ⟨hs, h1⟩
 | fault f hf h1 => exact .inl ⟨rfl, h1⟩
theorem Stp.sems {p : Prog} {s : State} {k : Nat} {st : Int} {op : Op} {s' : State} (h : Stp p s k st op s') : s'.sems = s.sems ∨ (op.kind = 2 ∨ op.kind = 3) ∧ ∃ x, s'.sems = s.sems.set op.on.toNat x := by
 cases h with
 | on s1 who hK hs nd hw =>
   obtain ⟨pl, st', hE, _, _⟩ := mY p (who ++ [(k : Int)]) s1
   rw [hE]
   exact hK.se
 | wait s1 b hK hs h1 hb => exact hK.se
 | fault f hf h1 => exact .inl rfl
theorem Stp.bars {p : Prog} {s : State} {k : Nat} {st : Int} {op : Op} {s' : State} (h : Stp p s k st op s') : s'.barriers = s.barriers ∨ ∃ x, s'.barriers = s.barriers.set op.on.toNat x ∧ x.round ≤ (iQ s op).round + 1 := by
 cases h with
 | on s1 who hK hs nd hw =>
   obtain ⟨pl, st', hE, _, _⟩ := mY p (who ++ [(k : Int)]) s1
   rw [hE]
   exact hK.ba
 | wait s1 b hK hs h1 hb => exact hK.ba
 | fault f hf h1 => exact .inl rfl
theorem StepOk.rdy {p : Prog} {s : State} {t : Int} (h : StepOk p s t) : ∃ (k : Nat) (ops : List Op) (a st : Int) (op : Op), t = k ∧ Rdy p s k ops a st op ∧ Stp p s k st op (doM p s t) := by
 obtain ⟨h1, h2, h3, h4⟩ := sM.1 h
 obtain ⟨k, ops, a, st, op, rfl, r⟩ := Go.Proofs.YtijmjecehppbfaaGreat.rdy h1 h2
 exact ⟨k, ops, a, st, op, rfl, r, r.stp h4⟩
def Rounds (s : State) (B : Int) : Prop := ∀ x ∈ s.barriers, x.round ≤ B
theorem Rounds.step {p : Prog} {s : State} {t B : Int} (h : StepOk p s t) (hB : 0 ≤ B) (hr : Rounds s B) : Rounds (doM p s t) (B + 1) := by
 obtain ⟨k, ops, a, st, op, rfl, r, hs⟩ := h.rdy
 intro x hx
 rcases hs.bars with e | ⟨y, e, hy⟩
 · rw [e] at hx
   have := hr x hx
   omega
 · rw [e] at hx
   rcases List.mem_or_eq_of_mem_set hx with hx | rfl
   · have := hr x hx
     omega
   · have hb : (iQ s op).round ≤ B := by
       rw [iQ, List.getD_eq_getElem?_getD]
       cases hc : s.barriers[op.on.toNat]? with
       | none => exact hB
       | some z => exact hr z (List.mem_of_getElem? hc)
     omega
theorem Rdy.own_on {p : Prog} {s : State} {k : Nat} {ops : List Op} {a st : Int} {op : Op} (r : Rdy p s k ops a st op) (hw : ¬ rL p s k) (h2 : st = 2) : (doM p s k).fault = 0 ∧ (doM p s k).places[k]? = some (a + 1) ∧ ((doM p s k).status[k]? = some 0 ∨ (doM p s k).status[k]? = some 3) := by
 have k4 : op.kind = 4 := by
   rcases r.ow with ⟨e, _⟩ | ⟨_, e, _⟩
   · omega
   · exact e
 have hst : s.status.getD (k : Int).toNat 0 = st := by rw [Int.toNat_natCast, List.getD_eq_getElem?_getD, r.h3]; rfl
 have hp : (doM p s k).places[k]? = some (a + 1) := by
   obtain ⟨x, hx, hxa, ok, hv, hi⟩ := r.once k4
   rw [doM, r.at_, dD, if_neg (by omega), if_neg (by omega), if_neg (by omega), if_pos k4, kJ, hst, if_pos h2, hxa]
   have hw2 : ∀ u ∈ x.waits, aN (bH s) u ≠ [] := fun u hu h0 => (aZ (g := fun t : Int => t)).1 ((mZ hx x).none h0) z99
   obtain ⟨nd2, h0⟩ := r.who (zQ ok) hw2
   have P := mX p _ (setOnce s op (x.finish k op.arg).1) nd2 h0 k
   rw [if_pos (by simp)] at P
   refine P.trans ?_
   show s.places[k]?.map _ = _
   rw [r.h2]; rfl
 rcases r.self (r.stp hw) with ⟨_, h1, _⟩ | h | ⟨_, h1, _⟩
 · have : (doM p s k).places = s.places := by have h := congrArg State.places h1; exact h
   rw [this, r.h2] at hp
   have := Option.some.inj hp
   omega
 · exact h
 · rw [h1, r.h2] at hp
   have := Option.some.inj hp
   omega
def rM (s : State) (i : Nat) : Int := if s.status.getD i 0 = 1 ∨ s.status.getD i 0 = 2 ∨ (s.fault ≠ 0 ∧ s.status.getD i 0 = 0) then 1 else 0
theorem rD (s : State) (i : Nat) : 0 ≤ rM s i ∧ rM s i ≤ 1 := by rw [rM]; split <;> omega
def Turns (s : State) (c : List Int) : Prop := ∀ i : Nat, i < c.length → c.getD i 0 ≤ 2 * s.places.getD i 0 + rM s i
theorem hS0 (c : List Int) (k i : Nat) (hk : k < c.length) : (oO c k).getD i 0 = if i = k then c.getD i 0 + 1 else c.getD i 0 := by
 rw [oO, Int.toNat_natCast, List.getD_eq_getElem?_getD, List.getElem?_set]
 by_cases e : k = i
 · subst e; simp [hk]
 · rw [if_neg e, if_neg (fun h => e h.symm), List.getD_eq_getElem?_getD]
theorem xS (c : List Int) (t : Int) : (oO c t).length = c.length := by rw [oO, List.length_set]
theorem Turns.step {p : Prog} {s : State} {t : Int} {c : List Int} (h : StepOk p s t) (hc : Turns s c) (hl : c.length = p.threads.length) : Turns (doM p s t) (oO c t) := by
 obtain ⟨h1, h2, h3, h4⟩ := sM.1 h
 obtain ⟨k, ops, a, st, op, rfl, r⟩ := rdy h1 h2
 have hs := r.stp h4
 intro i hi
 rw [xS] at hi
 have hci := hc i hi
 have hk : k < c.length := by rw [hl]; exact r.kn
 rw [hS0 c k i hk]
 have hf0 := r.f
 by_cases e : i = k
 · subst e
   rw [if_pos rfl]
   have p0 : s.places.getD i 0 = a := by rw [List.getD_eq_getElem?_getD, r.h2]; rfl
   have s0 : s.status.getD i 0 = st := by rw [List.getD_eq_getElem?_getD, r.h3]; rfl
   rw [p0] at hci
   have hb := rD (doM p s i) i
   by_cases h22 : st = 2
   · obtain ⟨_, q2, _⟩ := r.own_on h4 h22
     have q : (doM p s i).places.getD i 0 = a + 1 := by rw [List.getD_eq_getElem?_getD, q2]; rfl
     rw [q]
     have := rD s i
     omega
   have st0 : st = 0 := by
     rcases r.ow with ⟨e, _⟩ | ⟨e, _⟩
     · exact e
     · exact (h22 e).elim
   have hh : rM s i = 0 := by rw [rM, s0, st0, hf0]; simp
   rw [hh] at hci
   rcases r.self hs with ⟨f1, f2, f3, _⟩ | ⟨_, q2, _⟩ | ⟨_, q2, _, _, q3⟩
   · have q : (doM p s i).places.getD i 0 = a := by rw [show (doM p s i).places = s.places by have h := congrArg State.places f2; exact h]; exact p0
     have : rM (doM p s i) i = 1 := by
       rw [rM, if_pos (.inr (.inr ⟨f1, by rw [List.getD_eq_getElem?_getD, f3, st0]; rfl⟩))]
     omega
   · have q : (doM p s i).places.getD i 0 = a + 1 := by rw [List.getD_eq_getElem?_getD, q2]; rfl
     omega
   · have q : (doM p s i).places.getD i 0 = a := by rw [q2]; exact p0
     have : rM (doM p s i) i = 1 := by
       rw [rM, if_pos]
       rcases q3 with q3 | ⟨q3, _⟩
       · exact .inl (by rw [List.getD_eq_getElem?_getD, q3]; rfl)
       · exact .inr (.inl (by rw [List.getD_eq_getElem?_getD, q3]; rfl))
     omega
 · rw [if_neg e]
   rcases r.others hs i (by rw [← hl]; exact hi) e with ⟨q1, q2⟩ | ⟨q1, q2, q3⟩
   · have e1 : (doM p s k).places.getD i 0 = s.places.getD i 0 := by rw [List.getD_eq_getElem?_getD, List.getD_eq_getElem?_getD, q1]
     have e2 : (doM p s k).status.getD i 0 = s.status.getD i 0 := by rw [List.getD_eq_getElem?_getD, List.getD_eq_getElem?_getD, q2]
     have : rM s i ≤ rM (doM p s k) i := by
       rw [rM, rM, e2, hf0]
       simp only [ne_eq, not_true_eq_false, false_and, or_false]
       split
       · rename_i h
         rw [if_pos (by rcases h with h | h; exact .inl h; exact .inr (.inl h))]; exact Int.le_refl _
       · split <;> omega
     omega
   · have hip : i < s.places.length := by rw [h1.np, ← hl]; exact hi
     have e0 : s.places[i]? = some (s.places.getD i 0) := by rw [List.getD_eq_getElem?_getD, List.getElem?_eq_getElem hip]; rfl
     have e1 : (doM p s k).places.getD i 0 = s.places.getD i 0 + 1 := by
       rw [List.getD_eq_getElem?_getD, q2, e0]; rfl
     have := rD s i
     have := rD (doM p s k) i
     omega
theorem Turns.replay {p : Prog} : ∀ {tc : List Int} {s s' : State} {c : List Int}, replayM p s tc = some s' → Turns s c → c.length = p.threads.length → Turns s' (tc.foldl oO c) ∧ (tc ≠ [] → Fits p s')
 | [], s, s', c, h, hc, _ => by
   simp only [replayM, Option.some.injEq] at h
   subst h
   exact ⟨hc, fun h => (h rfl).elim⟩
 | t :: r, s, s', c, h, hc, hl => by
   simp only [replayM] at h
   split at h
   · rename_i hx
     obtain ⟨h1, h2⟩ := Turns.replay h (hc.step hx hl) (by rw [xS]; exact hl)
     refine ⟨h1, fun _ => ?_⟩
     by_cases hr : r = []
     · subst hr
       simp only [replayM, Option.some.injEq] at h
       subst h
       exact hx.2.2.2
     · exact h2 hr
   · cases h
theorem dD0 : ∀ (c : List Int) (k : Nat), k < c.length → (c.set k (c.getD k 0 + 1)).sum = c.sum + 1
 | [], k, h => by simp at h
 | x :: r, 0, _ => by simp; omega
 | x :: r, k + 1, h => by
   have := dD0 r k z100
   simp only [List.set_cons_succ, List.sum_cons, List.getD_cons_succ]
   omega
theorem zR : ∀ (tc c : List Int), (∀ t ∈ tc, 0 ≤ t ∧ t < (c.length : Int)) → (tc.foldl oO c).sum = c.sum + tc.length
 | [], c, _ => by simp
 | t :: r, c, h => by
   have ht := h t (by simp)
   have h1 := zR r (oO c t) fun x hx => by rw [xS]; exact h x (List.mem_cons_of_mem _ hx)
   have h2 := dD0 c t.toNat (by omega)
   rw [List.foldl_cons, h1, oO, h2, List.length_cons]
   omega
theorem kW0 {p : Prog} {tc : List Int} (h : (replayP p tc).isSome = true) : (tZ p.threads.length tc).sum = tc.length ∧ ∀ (i : Nat) (ops : List Op), p.threads[i]? = some ops → (tZ p.threads.length tc).getD i 0 ≤ 2 * (ops.length : Int) := by
 obtain ⟨h1, h2, h3⟩ := sP h
 refine ⟨?_, fun i ops hi => ?_⟩
 · rw [tZ, zR _ _ fun t ht => by rw [List.length_replicate]; exact h3 t ht]
   simp
 · have hin : i < p.threads.length := (List.getElem?_eq_some_iff.1 hi).1
   rw [replayP] at h
   split at h
   · obtain ⟨s', hs'⟩ := Option.isSome_iff_exists.1 h
     have t0 : Turns (start p) (List.replicate p.threads.length 0) := fun i hi => by
       rw [List.length_replicate] at hi
       have e1 : (List.replicate p.threads.length (0 : Int)).getD i 0 = 0 := by rw [List.getD_eq_getElem?_getD]; simp [hi]
       have e2 : (start p).places.getD i 0 = 0 := by rw [List.getD_eq_getElem?_getD]; simp [start, hi]
       have := rD (start p) i
       rw [e1, e2]; omega
     obtain ⟨t1, t2⟩ := Turns.replay hs' t0 (by simp)
     have t3 := t1 i (by
       have : (tc.foldl oO (List.replicate p.threads.length 0)).length = p.threads.length := qL _ _
       rw [this]; exact hin)
     by_cases he : tc = []
     · subst he
       show (List.replicate p.threads.length (0 : Int)).getD i 0 ≤ _
       rw [List.getD_eq_getElem?_getD]; simp [hin]; omega
     have ft := t2 he
     have hip : i < s'.places.length := by rw [ft.np]; exact hin
     have his : i < s'.status.length := by rw [ft.ns]; exact hin
     obtain ⟨a0, a1, h5⟩ := ft.threads i ops _ _ hi (List.getElem?_eq_getElem hip) (List.getElem?_eq_getElem his)
     have e1 : s'.places.getD i 0 = s'.places[i] := by rw [List.getD_eq_getElem?_getD, List.getElem?_eq_getElem hip]; rfl
     have e2 : s'.status.getD i 0 = s'.status[i] := by rw [List.getD_eq_getElem?_getD, List.getElem?_eq_getElem his]; rfl
     rw [e1] at t3
     show (tc.foldl oO (List.replicate p.threads.length 0)).getD i 0 ≤ _
     have hb := rD s' i
     rcases h5 with ⟨q1, q2, _⟩ | ⟨op, q1, _⟩
     · have : rM s' i = 0 := by rw [rM, e2, q2]; simp
       omega
     · have := (List.getElem?_eq_some_iff.1 q1).1
       omega
   · cases h
end Go.Proofs.YtijmjecehppbfaaGreat
namespace Go.Sx
set_option maxRecDepth 100000
set_option maxHeartbeats 100000000
open Go Go.RowKit
def bs (l : List UInt8) : ByteArray := ⟨l.toArray⟩
theorem bN0 (l : List UInt8) : (bs l).toList = l := ByteArray.toList_mk l
theorem uA (l : List UInt8) : (bs l).size = l.length := by simp [bs, ByteArray.size]
theorem oT0 (a b : List UInt8) : bs a ++ bs b = bs (a ++ b) := ByteArray.mk_append_mk a b
theorem bO0 (s : List UInt8) (l h : Nat) : (bs s).extract l h = bs ((s.drop l).take (h - l)) := ByteArray.extract_mk s l h
theorem oU0 (s : List UInt8) (k : Nat) (h : k < s.length) : (bs s)[k]? = some s[k] := by
 have h2 : k < (bs s).size := by rw [uA]; exact h
 rw [ByteArray.getElem?_lt' _ _ h2]
 congr 1
def xT (x : List UInt8) : List Value := [.string (bs x)]
theorem kM : Enc xT 1 := ⟨fun _ => rfl, fun _ u hu => by simp [xT] at hu; subst hu; rfl⟩
theorem dA {P : Program} {t : TypeId} {a b : List UInt8} (h : a.length + b.length ≤ 9223372036854775807) (w : World) : (binOp .add t (.string (bs a)) (.string (bs b))).run P w = .ok (.string (bs (a ++ b))) w := by
 rw [binOp_string_add, run_string_add_sum w _ _ (by rw [uA, uA]; exact h), oT0]
theorem wK {P : Program} {t : TypeId} {a b : List UInt8} (w : World) : (binOp .eql t (.string (bs a)) (.string (bs b))).run P w = .ok (.bool (a == b)) w := by
 rw [fZ0, bN0, bN0]
theorem wL {P : Program} {t : TypeId} {a b : List UInt8} (w : World) : (binOp .neq t (.string (bs a)) (.string (bs b))).run P w = .ok (.bool (a != b)) w := by
 rw [binOp_string_neq, bne]
 show (Op.stringOp .neq _ _).run P w = _
 simp [Op.stringOp, bN0]
section
variable {E : Env} {ti : Nat → TI} {A : Nat → Nat} {T : List (Nat × SV)} {n c : Nat} {B : List (Nat × TypeId × Nat)} {M : List ((Nat × Nat) × SV)} {F Fs : List Fct} {o : Oper} {next : St → Prop} {a : Act} {w : World}
theorem rE {P : Program} {t : TypeId} {agg : Bool} {size bytes : Nat} {zero : List Value} {fs : List (Nat × Nat × Bool)} {el : Option TypeId} {ik : Option IntKind} (h : bJ P t (.mk agg size zero fs el ik 2 bytes)) : P.underlying t = some .string := by
 obtain ⟨ii, dd, z, e1, e2, e3, e4, e5, e6, e7, e8, e9, e10, e11⟩ := aS h
 rw [e2, gP0 e10]
theorem kX0 (hti : ∀ t, bJ E.P t (ti t)) (hT : TD E A T n c a w) {k : Call} {t : TypeId} {x : Operand} {s : List UInt8} {agg : Bool} {size bytes : Nat} {zero : List Value} {fs : List (Nat × Nat × Bool)} {el : Option TypeId} {ik : Option IntKind}
   (hop : o.op = .call k) (hk : k.callee = .builtin .len) (ha : k.args.toList = [x]) (hty : k.argTypes.toList = [t])
   (hx : bF T x = some (.v (.string (bs s)))) (ht : ti t = .mk agg size zero fs el ik 2 bytes) : (execOp a.eval o).run E.P w = .ok (.value (.int .i64 (s.length : Int))) w := by
 have htt := hti t
 rw [ht] at htt
 have hs := rE htt
 have hx' := (aH hT hx).1
 simp only [SV.den] at hx'
 have hargs : k.args = #[x] := by apply Array.ext'; simpa using ha
 have htys : k.argTypes = #[t] := by apply Array.ext'; simpa using hty
 simp [execOp, hop, resolve, hk, hargs, htys, invoke, builtin, hx', run_len_string _ _ _ _ hs, goInt, uA]
theorem fH {k : Call} {t : TypeId} {x : Operand} {d : Nat} {s : List UInt8} {agg : Bool} {size bytes : Nat} {zero : List Value} {fs : List (Nat × Nat × Bool)} {el : Option TypeId} {ik : Option IntKind}
   (hti : ∀ t, bJ E.P t (ti t)) (hop : o.op = .call k) (hk : k.callee = .builtin .len) (ha : k.args.toList = [x]) (hty : k.argTypes.toList = [t])
   (hx : bF T x = some (.v (.string (bs s)))) (ht : ti t = .mk agg size zero fs el ik 2 bytes) (hd : Dst E o d)
   (hnext : next (.mk ((d, .v (.int .i64 (s.length : Int))) :: T) n c B M F)) : OpW (dI E o next T n c B M F) := by
 refine ⟨fun A a w hW hT => ?_⟩
 refine aX (kX0 hti hT hop hk ha hty hx ht) ?_
 rw [hd.1]
 exact ⟨_, ⟨_, hW, hT.put (v := .v (.int .i64 (s.length : Int))) hd.lt trivial⟩, hnext⟩
theorem kY0 (hti : ∀ t, bJ E.P t (ti t)) (hT : TD E A T n c a w) {t : TypeId} {x y : Operand} {s : List UInt8} {kd : IntKind} {q : Int} {agg : Bool} {size bytes : Nat} {zero : List Value} {fs : List (Nat × Nat × Bool)} {el : Option TypeId} {ik : Option IntKind}
   (hop : o.op = .index t x y) (hx : bF T x = some (.v (.string (bs s)))) (hy : bF T y = some (.v (.int kd q))) (ht : ti t = .mk agg size zero fs el ik 2 bytes) (j : Nat) (hq : q = (j : Int)) (hj : j < s.length) :
   (execOp a.eval o).run E.P w = .ok (.value (.int .u8 (s[j].toNat : Int))) w := by
 have htt := hti t
 rw [ht] at htt
 have hs := rE htt
 subst hq
 have hx' := (aH hT hx).1
 have hy' := (aH hT hy).1
 simp only [SV.den] at hx' hy'
 simp [execOp, hop, hx', hy', Instr.index, asIntOf, underlying, hs, oU0 s j hj]
theorem jT {t : TypeId} {x y : Operand} {d : Nat} {s : List UInt8} {kd : IntKind} {q : Int} {agg : Bool} {size bytes : Nat} {zero : List Value} {fs : List (Nat × Nat × Bool)} {el : Option TypeId} {ik : Option IntKind}
   (hti : ∀ t, bJ E.P t (ti t)) (hop : o.op = .index t x y) (hx : bF T x = some (.v (.string (bs s)))) (hy : bF T y = some (.v (.int kd q))) (ht : ti t = .mk agg size zero fs el ik 2 bytes) (hd : Dst E o d) (j : Nat) (hq : q = (j : Int)) (hj : j < s.length)
   (hnext : next (.mk ((d, .v (.int .u8 (s[j].toNat : Int))) :: T) n c B M F)) : OpW (dI E o next T n c B M F) := by
 refine ⟨fun A a w hW hT => ?_⟩
 refine aX (kY0 hti hT hop hx hy ht j hq hj) ?_
 rw [hd.1]
 exact ⟨_, ⟨_, hW, hT.put (v := .v (.int .u8 (s[j].toNat : Int))) hd.lt trivial⟩, hnext⟩
theorem kZ0 (hti : ∀ t, bJ E.P t (ti t)) (hT : TD E A T n c a w) {t : TypeId} {x : Operand} {lo hi : Option Operand} {s : List UInt8} {ml mh : Int} {agg : Bool} {size bytes : Nat} {zero : List Value} {fs : List (Nat × Nat × Bool)} {el : Option TypeId} {ik : Option IntKind}
   (hop : o.op = .slice t x lo hi none) (hx : bF T x = some (.v (.string (bs s)))) (ht : ti t = .mk agg size zero fs el ik 2 bytes)
   (hlo : rJ T 0 lo = some ml) (hhi : rJ T (s.length : Int) hi = some mh) {l h : Nat} (el' : ml = (l : Int)) (eh : mh = (h : Int)) (h1 : l ≤ h) (h2 : h ≤ s.length) :
   (execOp a.eval o).run E.P w = .ok (.value (.string (bs ((s.drop l).take (h - l))))) w := by
 have htt := hti t
 rw [ht] at htt
 have hs := rE htt
 subst el'; subst eh
 have hx' := (aH hT hx).1
 simp only [SV.den] at hx'
 have hz := uA s
 have key : ∀ lo' hi' : Option Value, ((lo' = none ∧ l = 0) ∨ ∃ kd, lo' = some (.int kd (l : Int))) → ((hi' = none ∧ h = s.length) ∨ ∃ kd, hi' = some (.int kd (h : Int))) →
     (Instr.slice t (.string (bs s)) lo' hi' none).run E.P w = .ok (.string (bs ((s.drop l).take (h - l)))) w := by
   rintro lo' hi' (⟨rfl, rfl⟩ | ⟨kd, rfl⟩) (⟨rfl, rfl⟩ | ⟨kd2, rfl⟩)
   · rw [run_slice_string_all w t _ hs, hz, bO0]
   · rw [run_slice_string_h w t _ hs kd2 _ (by omega) (by omega), bO0]; rfl
   · rw [run_slice_string_l w t _ hs kd _ (by omega) (by omega), hz, bO0]; rfl
   · rw [run_slice_string w t _ kd kd2 _ _ hs (by omega) (by omega) (by omega), bO0]; rfl
 have := key (lo.map a.eval) (hi.map a.eval) (by
   cases lo with
   | none => simp only [rJ, Option.some.injEq] at hlo; exact .inl ⟨rfl, by omega⟩
   | some y => obtain ⟨kd, e⟩ := qT hT hlo; exact .inr ⟨kd, by simp [e]⟩) (by
   cases hi with
   | none => simp only [rJ, Option.some.injEq] at hhi; exact .inl ⟨rfl, by omega⟩
   | some y => obtain ⟨kd, e⟩ := qT hT hhi; exact .inr ⟨kd, by simp [e]⟩)
 have hn : (Instr.sliceAt t (.string (bs s)) (lo.map a.eval) (hi.map a.eval) none).run E.P w = (Instr.slice t (.string (bs s)) (lo.map a.eval) (hi.map a.eval) none).run E.P w := by simp [Instr.sliceAt, underlying, hs]
 simp only [execOp, hop, hx', Option.map_none, hn, this, Sem.run_bind, Sem.run_pure, Result.andThen_ok]
theorem mG {t : TypeId} {x : Operand} {lo hi : Option Operand} {d : Nat} {s : List UInt8} {ml mh : Int} {agg : Bool} {size bytes : Nat} {zero : List Value} {fs : List (Nat × Nat × Bool)} {el : Option TypeId} {ik : Option IntKind}
   (hti : ∀ t, bJ E.P t (ti t)) (hop : o.op = .slice t x lo hi none) (hx : bF T x = some (.v (.string (bs s)))) (ht : ti t = .mk agg size zero fs el ik 2 bytes) (hd : Dst E o d)
   (hlo : rJ T 0 lo = some ml) (hhi : rJ T (s.length : Int) hi = some mh) (l h : Nat) (el' : ml = (l : Int)) (eh : mh = (h : Int)) (h1 : l ≤ h) (h2 : h ≤ s.length)
   (hnext : next (.mk ((d, .v (.string (bs ((s.drop l).take (h - l))))) :: T) n c B M F)) : OpW (dI E o next T n c B M F) := by
 refine ⟨fun A a w hW hT => ?_⟩
 refine aX (kZ0 hti hT hop hx ht hlo hhi el' eh h1 h2) ?_
 rw [hd.1]
 exact ⟨_, ⟨_, hW, hT.put (v := .v (.string (bs ((s.drop l).take (h - l))))) hd.lt trivial⟩, hnext⟩
theorem mL0 (hti : ∀ t, bJ E.P t (ti t)) (hT : TD E A T n c a w) {src dst e : TypeId} {x : Operand} {i : Sl} {s : List UInt8} {agg : Bool} {size bytes kk : Nat} {zero : List Value} {fs : List (Nat × Nat × Bool)} {ik : Option IntKind} {agg2 : Bool} {size2 bytes2 kk2 : Nat} {zero2 : List Value} {fs2 : List (Nat × Nat × Bool)} {el2 : Option TypeId} {agg3 : Bool} {size3 bytes3 : Nat} {zero3 : List Value} {fs3 : List (Nat × Nat × Bool)} {el3 : Option TypeId} {ik3 : Option IntKind}
   (hop : o.op = .convert src dst x) (hx : bF T x = some (.v (i.val s.length))) (ht : ti src = .mk agg size zero fs (some e) ik kk bytes) (hte : ti e = .mk agg2 size2 zero2 fs2 el2 (some .u8) kk2 bytes2) (htd : ti dst = .mk agg3 size3 zero3 fs3 el3 ik3 2 bytes3)
   (hr : RdS w i 1 (s.map fun b => .int .u8 (b.toNat : Int)) s.length) (hpos : 0 < s.length) : (execOp a.eval o).run E.P w = .ok (.value (.string (bs s))) w := by
 have htt := hti src
 rw [ht] at htt
 obtain ⟨ii, dd, z, e1, e2, e3, e4, e5, e6, e7, e8, e9, e10, e11⟩ := aS htt
 have h1 : E.P.underlying src = some (.slice e) := by rw [e2, gC e8]
 have htt2 := hti e
 rw [hte] at htt2
 obtain ⟨ii2, dd2, z2, k1, k2, k3, k4, k5, k6, k7, k8, k9, k10, k11⟩ := aS htt2
 have h2 : E.P.underlying e = some (.int .u8) := by rw [k2, iL0 k9]
 have htt3 := hti dst
 rw [htd] at htt3
 have h3 := rE htt3
 have hx' := (aH hT hx).1
 simp only [SV.den, Sl.val] at hx'
 obtain ⟨_, _, _, hc⟩ := hr
 obtain ⟨ad, ha, hcell⟩ := hc hpos
 have key := run_convert_bytes_back (P := E.P) w src dst e ad i.c s h1 h2 h3 (fun j hj => hcell j _ (by simp [List.getElem?_eq_getElem hj]))
 rw [ha] at hx'
 simp only [execOp, hop, hx', key, Sem.run_bind, Sem.run_pure, Result.andThen_ok]
 rfl
theorem dE0 {src dst e : TypeId} {x : Operand} {d : Nat} {i : Sl} {s : List UInt8} {agg : Bool} {size bytes kk : Nat} {zero : List Value} {fs : List (Nat × Nat × Bool)} {ik : Option IntKind} {agg2 : Bool} {size2 bytes2 kk2 : Nat} {zero2 : List Value} {fs2 : List (Nat × Nat × Bool)} {el2 : Option TypeId} {agg3 : Bool} {size3 bytes3 : Nat} {zero3 : List Value} {fs3 : List (Nat × Nat × Bool)} {el3 : Option TypeId} {ik3 : Option IntKind}
   (hti : ∀ t, bJ E.P t (ti t)) (hop : o.op = .convert src dst x) (hx : bF T x = some (.v (i.val s.length))) (ht : ti src = .mk agg size zero fs (some e) ik kk bytes) (hte : ti e = .mk agg2 size2 zero2 fs2 el2 (some .u8) kk2 bytes2) (htd : ti dst = .mk agg3 size3 zero3 fs3 el3 ik3 2 bytes3) (hd : Dst E o d)
   (hF : ∀ w, (∀ f ∈ F, f.P w) → RdS w i 1 (s.map fun b => .int .u8 (b.toNat : Int)) s.length) (hpos : 0 < s.length)
   (hnext : next (.mk ((d, .v (.string (bs s))) :: T) n c B M F)) : OpW (dI E o next T n c B M F) := by
 refine ⟨fun A a w hW hT => ?_⟩
 refine aX (mL0 hti hT hop hx ht hte htd (hF w (fun f hf => (hW.fct f hf).1)) hpos) ?_
 rw [hd.1]
 exact ⟨_, ⟨_, hW, hT.put (v := .v (.string (bs s))) hd.lt trivial⟩, hnext⟩
end
end Go.Sx
namespace Go.Proofs.YtijmjecehppbfaaGreat
set_option maxRecDepth 100000
set_option maxHeartbeats 100000000
open Go Go.Sx Go.RowKit
abbrev Str := List UInt8
def uW (c : UInt8) : Str → Str → List Str
 | acc, [] => [acc]
 | acc, x :: r => if x = c then acc :: uW c [] r else uW c (acc ++ [x]) r
def gI (c : UInt8) (s : Str) : List Str := uW c [] s
theorem xU (c : UInt8) : ∀ (s acc : Str), 1 ≤ (uW c acc s).length ∧ (uW c acc s).length ≤ s.length + 1
 | [], acc => by simp [uW]
 | x :: r, acc => by
   simp only [uW]
   split
   · have := xU c r []; simp only [List.length_cons]; omega
   · have := xU c r (acc ++ [x]); simp only [List.length_cons]; omega
theorem uX (c : UInt8) : ∀ (s acc : Str), ∀ x ∈ uW c acc s, x.length ≤ acc.length + s.length
 | [], acc, x, h => by simp only [uW, List.mem_singleton] at h; subst h; simp
 | y :: r, acc, x, h => by
   simp only [uW] at h
   split at h
   · rcases List.mem_cons.1 h with rfl | h
     · omega
     · have := uX c r [] x h; simp only [List.length_cons, List.length_nil] at this ⊢; omega
   · have := uX c r (acc ++ [y]) x h; simp only [List.length_cons, List.length_append, List.length_nil] at this ⊢; omega
theorem uB (c : UInt8) (s : Str) : 1 ≤ (gI c s).length ∧ (gI c s).length ≤ s.length + 1 := xU c s []
theorem rF {c : UInt8} {s x : Str} (h : x ∈ gI c s) : x.length ≤ s.length := by have := uX c s [] x h; simpa using this
def uC : Int → Str → Option Int
 | n, [] => some n
 | n, x :: r => if x.toNat < 48 ∨ 57 < x.toNat then none else uC (n * 10 + ((x.toNat : Int) - 48)) r
def xV (s : Str) : Bool := decide (s.head? = some 45)
def nS (s : Str) : Str := if xV s = true then s.drop 1 else s
def xW (s : Str) : Prop := (nS s).length = 0 ∨ 17 < (nS s).length ∨ ((nS s).head? = some 48 ∧ (1 < (nS s).length ∨ xV s = true))
instance (s : Str) : Decidable (xW s) := by unfold xW; exact inferInstance
def uY (s : Str) : Option Int := if xW s then none else (uC 0 (nS s)).map fun n => if xV s = true then -n else n
def sQ : Nat → Nat → Str → Str
 | 0, _, out => out
 | f + 1, n, out => if 9 < n then sQ f (n / 10) (UInt8.ofNat (48 + n % 10) :: out) else UInt8.ofNat (48 + n) :: out
def lL (n : Int) : Str := if n < 0 then 45 :: sQ 19 n.natAbs [] else sQ 19 n.toNat []
theorem uD : ∀ (f n : Nat) (out : Str), (sQ f n out).length ≤ out.length + f
 | 0, n, out => Nat.le_refl _
 | f + 1, n, out => by
   simp only [sQ]
   split
   · have := uD f (n / 10) (UInt8.ofNat (48 + n % 10) :: out); simp only [List.length_cons] at this; omega
   · simp only [List.length_cons]; omega
theorem oP (n : Int) : (lL n).length ≤ 20 := by
 unfold lL
 split
 · have := uD 19 n.natAbs []; simp only [List.length_cons, List.length_nil] at this ⊢; omega
 · have := uD 19 n.toNat []; simp only [List.length_nil] at this; omega
def wordsL : List Str := [[], [115, 97, 121], [97, 99, 113, 117, 105, 114, 101], [114, 101, 108, 101, 97, 115, 101], [111, 110, 99, 101], [97, 100, 100], [119, 97, 105, 116], [97, 114, 114, 105, 118, 101], [115, 101, 110, 100], [103, 101, 116], [99, 108, 111, 115, 101]]
def fS (k : Int) : Str := if k < 1 ∨ 10 < k then [] else wordsL.getD k.toNat []
def iS (k : Int) : Int := if k = 6 ∨ k = 7 ∨ k = 9 ∨ k = 10 then 1 else if k = 1 then 0 else 2
theorem eN0 : ∀ x ∈ wordsL, x.length ≤ 7 := by decide
theorem zS (k : Int) : (fS k).length ≤ 7 := by
 unfold fS
 split
 · simp
 · rw [List.getD_eq_getElem?_getD]
   cases h : wordsL[k.toNat]? with
   | none => simp
   | some x => exact eN0 x (List.mem_of_getElem? h)
def gA (o : Op) : Str := if fS o.kind = [] then [] else if iS o.kind = 0 then (fS o.kind ++ [32]) ++ lL o.arg else if iS o.kind = 1 then (fS o.kind ++ [32]) ++ lL o.on else (((fS o.kind ++ [32]) ++ lL o.on) ++ [32]) ++ lL o.arg
theorem eO0 (o : Op) : (gA o).length ≤ 60 := by
 have h1 := zS o.kind
 have h2 := oP o.on
 have h3 := oP o.arg
 unfold gA
 split
 · simp
 split
 · simp only [List.length_append, List.length_cons, List.length_nil]; omega
 split
 · simp only [List.length_append, List.length_cons, List.length_nil]; omega
 · simp only [List.length_append, List.length_cons, List.length_nil]; omega
def nE (k : Int) (ns : List Int) : Option Op :=
 if iS k = 0 then match ns with | [a] => some ⟨k, 0, a⟩ | _ => none
 else if iS k = 1 then match ns with | [a] => some ⟨k, a, 0⟩ | _ => none
 else match ns with | [a, b] => some ⟨k, a, b⟩ | _ => none
def gL : List Str → Option (List Int)
 | [] => some []
 | s :: r => match uY s with
   | none => none
   | some n => match gL r with
     | none => none
     | some l => some (n :: l)
def pK (t w : Str) (ns : List Int) : Nat → Nat → Option Op
 | 0, _ => none
 | f + 1, k => if fS k = w then match nE k ns with
     | some o => if gA o = t then some o else pK t w ns f (k + 1)
     | none => pK t w ns f (k + 1)
   else pK t w ns f (k + 1)
def eX (t : Str) : Option Op :=
 match gL (((gI 32 t).drop 1).take 3) with
 | none => none
 | some ns => if ns.length + 1 = (gI 32 t).length then pK t ((gI 32 t).headD []) ns 10 1 else none
def jB : Str → List Int → Str
 | out, [] => out
 | out, x :: r => jB ((out ++ [32]) ++ lL x) r
def fA (w : Str) (l : List Int) : Str := if l = [] then [] else jB w l ++ [10]
def pF : Bool → Str → List Op → Str
 | _, out, [] => out
 | first, out, o :: r => pF false (((if first = true then out else out ++ [44]) ++ [32]) ++ gA o) r
def gQ : Str → List (List Op) → Str
 | out, [] => out
 | out, t :: r => gQ (pF true (out ++ [116, 104, 114, 101, 97, 100]) t ++ [10]) r
def uE (p : Prog) : Str := gQ (((fA [115, 101, 109, 115] p.sems ++ fA [103, 114, 111, 117, 112, 115] p.groups) ++ fA [98, 97, 114, 114, 105, 101, 114, 115] p.barriers) ++ fA [114, 111, 111, 109, 115] p.rooms) p.threads
def uF (line w : Str) : Option (List Int) :=
 if (gI 32 line).headD [] = w ∧ 2 ≤ (gI 32 line).length then match gL (((gI 32 line).drop 1).take 5) with
   | none => none
   | some ns => if ns.length + 1 = (gI 32 line).length then some ns else none
 else none
def hU0 : List Str → Option (List Op)
 | [] => some []
 | s :: r => match (if s.head? = some 32 then eX (s.drop 1) else none) with
   | none => none
   | some o => match hU0 r with
     | none => none
     | some l => some (o :: l)
def opsM : List Str → Option (List Op)
 | [] => some []
 | s :: r => match eX s with
   | none => none
   | some o => match hU0 r with
     | none => none
     | some l => some (o :: l)
def mF (line : Str) : Option (List Op) :=
 if line = [116, 104, 114, 101, 97, 100] then some []
 else if line.length < 7 ∨ line.take 7 ≠ [116, 104, 114, 101, 97, 100, 32] then none
 else match opsM ((gI 44 (line.drop 7)).take 9) with
   | none => none
   | some l => if (gI 44 (line.drop 7)).length ≤ 8 then some l else none
def lX (p : Prog) (line : Str) : Prog :=
 match uF line [115, 101, 109, 115] with
 | some a => { p with sems := a }
 | none => match uF line [103, 114, 111, 117, 112, 115] with
   | some a => { p with groups := a }
   | none => match uF line [98, 97, 114, 114, 105, 101, 114, 115] with
     | some a => { p with barriers := a }
     | none => match uF line [114, 111, 111, 109, 115] with
       | some a => { p with rooms := a }
       | none => match mF line with
         | some t => { p with threads := p.threads ++ [t] }
         | none => p
def sR (t : Str) : Prog := (((gI 10 t).take ((gI 10 t).length - 1)).take 9).foldl lX ⟨[], [], [], [], []⟩
def samplesL : List Str := [[115, 101, 109, 115, 32, 49, 10, 116, 104, 114, 101, 97, 100, 32, 97, 99, 113, 117, 105, 114, 101, 32, 48, 32, 49, 44, 32, 115, 97, 121, 32, 49, 44, 32, 114, 101, 108, 101, 97, 115, 101, 32, 48, 32, 49, 10, 116, 104, 114, 101, 97, 100, 32, 97, 99, 113, 117, 105, 114, 101, 32, 48, 32, 49, 44, 32, 115, 97, 121, 32, 50, 44, 32, 114, 101, 108, 101, 97, 115, 101, 32, 48, 32, 49, 10], [115, 101, 109, 115, 32, 49, 32, 49, 10, 116, 104, 114, 101, 97, 100, 32, 97, 99, 113, 117, 105, 114, 101, 32, 48, 32, 49, 44, 32, 97, 99, 113, 117, 105, 114, 101, 32, 49, 32, 49, 44, 32, 114, 101, 108, 101, 97, 115, 101, 32, 49, 32, 49, 44, 32, 114, 101, 108, 101, 97, 115, 101, 32, 48, 32, 49, 10, 116, 104, 114, 101, 97, 100, 32, 97, 99, 113, 117, 105, 114, 101, 32, 49, 32, 49, 44, 32, 97, 99, 113, 117, 105, 114, 101, 32, 48, 32, 49, 44, 32, 114, 101, 108, 101, 97, 115, 101, 32, 48, 32, 49, 44, 32, 114, 101, 108, 101, 97, 115, 101, 32, 49, 32, 49, 10], [103, 114, 111, 117, 112, 115, 32, 50, 10, 116, 104, 114, 101, 97, 100, 32, 115, 97, 121, 32, 49, 44, 32, 97, 100, 100, 32, 48, 32, 45, 49, 10, 116, 104, 114, 101, 97, 100, 32, 115, 97, 121, 32, 50, 44, 32, 97, 100, 100, 32, 48, 32, 45, 49, 10, 116, 104, 114, 101, 97, 100, 32, 119, 97, 105, 116, 32, 48, 44, 32, 115, 97, 121, 32, 51, 10], [98, 97, 114, 114, 105, 101, 114, 115, 32, 50, 10, 116, 104, 114, 101, 97, 100, 32, 115, 97, 121, 32, 49, 44, 32, 97, 114, 114, 105, 118, 101, 32, 48, 44, 32, 115, 97, 121, 32, 50, 10, 116, 104, 114, 101, 97, 100, 32, 97, 114, 114, 105, 118, 101, 32, 48, 44, 32, 115, 97, 121, 32, 51, 10], [114, 111, 111, 109, 115, 32, 48, 10, 116, 104, 114, 101, 97, 100, 32, 115, 101, 110, 100, 32, 48, 32, 55, 44, 32, 115, 97, 121, 32, 49, 10, 116, 104, 114, 101, 97, 100, 32, 103, 101, 116, 32, 48, 44, 32, 115, 97, 121, 32, 50, 10], [116, 104, 114, 101, 97, 100, 32, 111, 110, 99, 101, 32, 48, 32, 53, 44, 32, 115, 97, 121, 32, 49, 10, 116, 104, 114, 101, 97, 100, 32, 111, 110, 99, 101, 32, 48, 32, 54, 44, 32, 115, 97, 121, 32, 50, 10], [114, 111, 111, 109, 115, 32, 49, 10, 116, 104, 114, 101, 97, 100, 32, 115, 101, 110, 100, 32, 48, 32, 49, 44, 32, 115, 101, 110, 100, 32, 48, 32, 50, 44, 32, 99, 108, 111, 115, 101, 32, 48, 10, 116, 104, 114, 101, 97, 100, 32, 103, 101, 116, 32, 48, 44, 32, 103, 101, 116, 32, 48, 44, 32, 103, 101, 116, 32, 48, 10], [103, 114, 111, 117, 112, 115, 32, 49, 10, 116, 104, 114, 101, 97, 100, 32, 97, 100, 100, 32, 48, 32, 45, 49, 44, 32, 97, 100, 100, 32, 48, 32, 45, 49, 10, 116, 104, 114, 101, 97, 100, 32, 119, 97, 105, 116, 32, 48, 10]]
instance (xs : List Int) (a b : Int) : Decidable (iE xs a b) := by unfold iE; exact inferInstance
instance (p : Prog) (o : Op) : Decidable (p.argOk o) := by unfold Prog.argOk; exact inferInstance
instance (p : Prog) (o : Op) : Decidable (OpOk p o) := by unfold OpOk; exact inferInstance
instance (p : Prog) : Decidable (ProgOk p) := decidable_of_iff (iE p.sems 1 9 ∧ iE p.groups 0 9 ∧ iE p.barriers 1 6 ∧ iE p.rooms 0 4 ∧ 1 ≤ p.threads.length ∧ p.threads.length ≤ 4 ∧ ∀ t ∈ p.threads, t.length ≤ 8 ∧ ∀ o ∈ t, OpOk p o)
 ⟨fun ⟨a, b, c, d, e, f, g⟩ => ⟨a, b, c, d, e, f, g⟩, fun ⟨a, b, c, d, e, f, g⟩ => ⟨a, b, c, d, e, f, g⟩⟩
theorem eP0 : ∀ t ∈ samplesL, t.length ≤ 200 ∧ ProgOk (sR t) ∧ uE (sR t) = t := by decide +kernel
theorem hV0 (s : Str) {a i : Nat} (h1 : a ≤ i) (h2 : i < s.length) : (s.drop a).take (i + 1 - a) = (s.drop a).take (i - a) ++ [s[i]] := by
 have e : i + 1 - a = (i - a) + 1 := by omega
 rw [e, List.take_succ_eq_append_getElem z92]
 congr 2
 rw [List.getElem_drop]
 congr 1
 omega
theorem dF0 (a b : UInt8) : ((a.toNat : Int) = (b.toNat : Int)) ↔ a = b := by
 constructor
 · intro h; exact UInt8.toNat_inj.1 (by omega)
 · intro h; rw [h]
theorem gH0 (s : Str) (c : UInt8) (w : World) (hb : s.length ≤ 1000000) :
   Calls Tryz.prog 153 #[.string (bs s), .int .u8 (c.toNat : Int)] w (Ret w fun v L => ∃ y : Sl, v = y.val (gI c s).length ∧ L = [own y 9 xT 1 (gI c s)]) := by
 refine cM Tryz.func153 rfl aA w _ rfl _ rfl [] trivial trivial _ _ (by decide) ?_
 refine AllSl.mk fun y0 => ?_
 refine LoopW.mk ⟨{ q : Nat × Nat × Sl × List Str // (q.1 ≤ s.length → q.2.1 ≤ q.1 ∧ gI c s = q.2.2.2 ++ uW c ((s.drop q.2.1).take (q.1 - q.2.1)) (s.drop q.1)) ∧ (s.length < q.1 → q.1 = s.length + 1 ∧ q.2.2.2 = gI c s) ∧ q.2.1 ≤ s.length + 1 ∧ q.2.2.2.length ≤ q.1 },
   fun q => .mk [(0, .v (.string (bs s))), (1, .v (.int .u8 (c.toNat : Int))), (5, .v (q.1.2.2.1.val q.1.2.2.2.length)), (6, .v (.int .i64 (q.1.2.1 : Int))), (7, .v (.int .i64 (q.1.1 : Int)))] 0 0 [] [] [own q.1.2.2.1 9 xT 1 q.1.2.2.2],
   fun q => s.length + 1 - q.1.1, ⟨(0, 0, y0, []), fun _ => ⟨Nat.le_refl _, by simp [gI]⟩, fun h => z109, by simp, by simp⟩, ?_, ?_⟩
 · exact aC [0] zw2 zw0 zw2 zw5 zw4 rfl rfl
 rintro ⟨⟨i, a, y, out⟩, i1, i2, i3, i4⟩
 simp only at i1 i2 i3 i4 ⊢
 refine fH aA rfl rfl rfl rfl rfl rfl ⟨rfl, rfl⟩ ?_
 apply CaseB.mk <;> intro g
 · have hi : i ≤ s.length := by have := of_decide_eq_true g; omega
   obtain ⟨ha, hc⟩ := i1 hi
   have hw := bE i (s.length + 1) (by omega) (by omega)
   refine fH aA rfl rfl rfl rfl rfl rfl ⟨rfl, rfl⟩ ?_
   apply CaseB.mk <;> intro g
   · have hie : i = s.length := by have g' : (i : Int) = (s.length : Int) := z103; omega
     refine mG aA rfl rfl rfl ⟨rfl, rfl⟩ rfl rfl (a) (i) rfl rfl z48 z48 ?_
     refine AllSl.mk fun b3 => ?_
     refine bR kM 1 aA (xs := out) (ys := [(s.drop a).take (i - a)]) rfl rfl rfl rfl rfl rfl rfl rfl rfl (by decide) ⟨rfl, rfl⟩ rfl z40 z48 z48 (fun z3 => ?_)
     refine ⟨⟨(i + 1, i + 1, z3, out ++ [(s.drop a).take (i - a)]), fun h => by have h : i + 1 ≤ s.length := h; omega, fun _ => ⟨show i + 1 = s.length + 1 by omega, ?_⟩, show i + 1 ≤ s.length + 1 by omega, by simp; omega⟩, ?_, by simp only; omega⟩
     · rw [hc, List.drop_eq_nil_of_le (show s.length ≤ i by omega)]; rfl
     · exact aC [0] zw1 zw0 zw1 zw5 zw3 rfl rfl
   have hil : i < s.length := by have g' : ¬ (i : Int) = (s.length : Int) := z103; omega
   have hd : s.drop i = s[i] :: s.drop (i + 1) := List.drop_eq_getElem_cons hil
   refine jT aA rfl rfl rfl rfl ⟨rfl, rfl⟩ (i) rfl z48 ?_
   refine CaseB.mk (fun g2 => ?_) (fun g2 => ?_)
   · have e : s[i] = c := (dF0 _ _).1 z98
     refine mG aA rfl rfl rfl ⟨rfl, rfl⟩ rfl rfl (a) (i) rfl rfl z48 z48 ?_
     refine AllSl.mk fun b3 => ?_
     refine bR kM 1 aA (xs := out) (ys := [(s.drop a).take (i - a)]) rfl rfl rfl rfl rfl rfl rfl rfl rfl (by decide) ⟨rfl, rfl⟩ rfl z40 z48 z48 (fun z3 => ?_)
     refine ⟨⟨(i + 1, i + 1, z3, out ++ [(s.drop a).take (i - a)]), fun _ => ⟨show i + 1 ≤ i + 1 by omega, ?_⟩, fun h => by have h : s.length < i + 1 := h; omega, show i + 1 ≤ s.length + 1 by omega, by simp; omega⟩, ?_, by simp only; omega⟩
     · rw [hc, hd, uW, if_pos e]; simp
     · exact aC [0] zw1 zw0 zw1 zw5 zw3 rfl rfl
   have e : ¬ s[i] = c := fun h => by rw [h] at g2; simp at g2
   refine ⟨⟨(i + 1, a, y, out), fun _ => ⟨show a ≤ i + 1 by omega, ?_⟩, fun h => by have h : s.length < i + 1 := h; omega, i3, show out.length ≤ i + 1 by omega⟩, ?_, by simp only; omega⟩
   · rw [hc, hd, uW, if_neg e, hV0 s ha hil]
   · exact aC [0] zw1 zw0 zw1 zw5 zw3 rfl rfl
 have hi : s.length < i := by have := of_decide_eq_false g; omega
 obtain ⟨_, e⟩ := i2 hi
 rw [← e]
 exact bC [0] ⟨y, rfl, rfl⟩ z151 rfl ⟨rfl, trivial⟩ (fun _ => rfl)
end Go.Proofs.YtijmjecehppbfaaGreat
