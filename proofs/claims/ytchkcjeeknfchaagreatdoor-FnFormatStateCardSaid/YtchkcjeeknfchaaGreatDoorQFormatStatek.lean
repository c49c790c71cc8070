/- FnFormatState: texts that its proof stands on, part 11. -/
import Derived.Test.YtchkcjeeknfchaaGreatDoorQFormatStatej
namespace Go.Proofs.YtchkcjeeknfchaaGreatDoor
set_option maxRecDepth 100000
set_option maxHeartbeats 100000000
open Go Go.Sx Go.RowKit
theorem iT0 {Zs G : List Fct} (hm : fR G ∈ Zs) {o : Bool} {i : Sl} {sz m : Nat} {cs : List Value} (r : Rd (fR G) (fSl o i sz cs m)) : ∀ w, (∀ f ∈ Zs, f.P w) → RdS w i sz cs m := fun w h => r.p w (h _ hm)
theorem bC0 (s : StateH) (w : World) (h : At w [fR (aJ s)]) (hb : s.pure.small20) :
   Calls Tryz.prog 113 #[aM s] w (Ret w fun v L => ∃ y : StateH, v = aM y ∧ y.pure = s.pure ∧ L = [fO (aJ y)]) := by
 obtain ⟨b0, b1, b2, b3, b4, b5, b6, b7⟩ := hb
 have l0 : s.places.length ≤ 1048576 := b0
 have l1 : s.status.length ≤ 1048576 := b1
 have l7 : s.said.length ≤ 1048576 := b7
 have l2 : s.sems.length ≤ 1048576 := (cY b2).1
 have l3 : s.onces.length ≤ 1048576 := (cY b3).1
 have l4 : s.groups.length ≤ 1048576 := (cY b4).1
 have l5 : s.barriers.length ≤ 1048576 := (cY b5).1
 have l6 : s.chans.length ≤ 1048576 := (cY b6).1
 refine bU Tryz.func113 rfl aA w _ rfl _ rfl _ h ⟨rfl, rfl, trivial⟩ _ (by decide) ?_
 refine mW (Sl × Sl × Sl) (fun y => .mk [(1, .p 0 0), (2, .p 1 0), (3, .p 2 0)] 3 0 [(0, 46, 9), (1, 46, 9), (2, 46, 9)] [((0, 0), .v (s.h0.val s.places.length)), ((0, 1), .v (s.h1.val s.status.length)), ((0, 2), .v (s.h2.val s.sems.length)), ((0, 3), .v (s.h3.val s.onces.length)), ((0, 4), .v (s.h4.val s.groups.length)), ((0, 5), .v (s.h5.val s.barriers.length)), ((0, 6), .v (s.h6.val s.chans.length)), ((0, 7), .v (s.h7.val s.said.length)), ((0, 8), .v (.int .i64 s.fault)), ((2, 0), .v (y.1.val s.places.length)), ((2, 1), .v (y.2.1.val s.status.length)), ((2, 2), .v (.slice none 0 0)), ((2, 3), .v (.slice none 0 0)), ((2, 4), .v (.slice none 0 0)), ((2, 5), .v (.slice none 0 0)), ((2, 6), .v (.slice none 0 0)), ((2, 7), .v (y.2.2.val s.said.length)), ((2, 8), .v (.int .i64 s.fault))] [own y.1 3 aL 1 s.places, own y.2.1 3 aL 1 s.status, own y.2.2 3 aL 1 s.said, fR (aJ s)]) ?_ ?_
 · refine aH aA z88 z88 z88 200 [((0, 0), .v (s.h0.val s.places.length)), ((0, 1), .v (s.h1.val s.status.length)), ((0, 7), .v (s.h7.val s.said.length)), ((0, 8), .v (.int .i64 s.fault))] [] [] z98 z110 trivial rfl ?_
   repeat' ((conv => whnf); (first
     | refine BothW.mk ?_ ?_
     | refine AllSl.mk fun y => ?_
     | (refine pM rfl rfl ?_; refine oV (ti := aZ tab) aI aA (xs := ([] : List Int)) rfl rfl rfl rfl rfl rfl rfl rfl rfl (by decide) ⟨rfl, rfl⟩ z35 (by first | exact iT0 z67 (.ofR (fY s)) | exact iT0 z67 (.ofR (cR s)) | exact iT0 z67 (.ofR (jP s))) z37 z37 z86 (fun y => ?_))
     | fail))
   all_goals
     refine ⟨(?_, ?_, ?_), ?_⟩
     rotate_left 3
     exact aC [2, 1, 0, 3] zw2 zw0 zw2 zw5 zw4 rfl rfl
 rintro ⟨a, b, d⟩
 simp only
 refine LoopW.mk ⟨{ q : Nat × Sl × List SemH // q.1 ≤ s.sems.length ∧ q.2.2.map (·.m) = (s.sems.map (·.m)).take q.1 },
   fun q => .mk [(1, .p 0 0), (2, .p 1 0), (3, .p 2 0), (4, .v (.int .i64 (q.1.1 : Int)))] 3 0 [(0, 46, 9), (1, 46, 9), (2, 46, 9)] [((0, 0), .v (s.h0.val s.places.length)), ((0, 1), .v (s.h1.val s.status.length)), ((0, 2), .v (s.h2.val s.sems.length)), ((0, 3), .v (s.h3.val s.onces.length)), ((0, 4), .v (s.h4.val s.groups.length)), ((0, 5), .v (s.h5.val s.barriers.length)), ((0, 6), .v (s.h6.val s.chans.length)), ((0, 7), .v (s.h7.val s.said.length)), ((0, 8), .v (.int .i64 s.fault)), ((2, 0), .v (a.val s.places.length)), ((2, 1), .v (b.val s.status.length)), ((2, 2), .v (q.1.2.1.val q.1.2.2.length)), ((2, 3), .v (.slice none 0 0)), ((2, 4), .v (.slice none 0 0)), ((2, 5), .v (.slice none 0 0)), ((2, 6), .v (.slice none 0 0)), ((2, 7), .v (d.val s.said.length)), ((2, 8), .v (.int .i64 s.fault))] [own q.1.2.1 85 iU 3 q.1.2.2, fO (q.1.2.2.flatMap qM), own a 3 aL 1 s.places, own b 3 aL 1 s.status, own d 3 aL 1 s.said, fR (aJ s)],
   fun q => s.sems.length - q.1.1, ⟨(0, ⟨none, 0⟩, []), Nat.zero_le _, by simp⟩, ?_, ?_⟩
 · refine aX (.joinO [] (Gs := []) trivial rfl (.refl _)) ?_
   exact aC [99, 0, 1, 2, 3, 4] zw2 zw0 zw2 zw5 zw4 rfl rfl
 rintro ⟨⟨k, c0, L0⟩, hk, hL0⟩
 simp only at hk hL0
 have ln0 : L0.length = k := by have := congrArg List.length hL0; simp at this; omega
 apply CaseB.mk <;> intro g
 · have hlt : k < s.sems.length := by simpa using g
   have hw := bA k _ hlt (by omega)
   have hsm := (cY b2).2 _ (List.getElem_mem hlt)
   unfold Sem.small20 at hsm
   refine aH aA z88 z88 z88 200 [((0, 2), .v (s.h2.val s.sems.length))] [5] [_] z117 z120 ⟨rfl, trivial⟩ rfl ?_
   refine bM (ti := aZ tab) dV aA rfl rfl rfl rfl rfl ⟨rfl, rfl⟩ (aN 0 rfl (.trans (.R_R (cI s)) (.ofR bK))) k rfl z37 (fun ad => ?_)
   refine BothW.mk ?_ ?_
   all_goals
     refine bV _ dF0 rfl rfl rfl rfl ⟨rfl, rfl⟩ (fun A w hW => sI _ _ w ⟨hW.get 5 rfl (.trans (.R_R (cI s)) (.ofR (nO _ _ k hlt))), trivial⟩ (by omega)) ?_
     rintro v L ⟨y0, rfl, rfl⟩
   rotate_left
   · refine BothW.mk ?_ ?_
     all_goals
       refine AllSl.mk fun u2 => ?_
       refine dB (ti := aZ tab) dV 2 aA (ys := [⟨(s.sems[k]).m, y0⟩]) rfl rfl rfl rfl rfl rfl rfl rfl rfl (by decide) ⟨rfl, rfl⟩ rfl z31 z37 z37 z86 (fun c2 => ?_)
       refine ⟨⟨(k + 1, c2, L0 ++ [⟨(s.sems[k]).m, y0⟩]), hlt, by rw [List.map_append]; exact bL hlt hL0 rfl⟩, ?_, by simp only; omega⟩
       refine aX (.joinO [2, 3] (Gs := [[_], _]) z108 rfl (G := (L0 ++ [(⟨(s.sems[k]).m, y0⟩ : SemH)]).flatMap qM) z44) ?_
       exact aC [1, 0, 3, 4, 5, 6] zw1 zw0 zw1 zw5 zw3 rfl rfl
   refine AllSl.mk fun u2 => ?_
   refine dB (ti := aZ tab) dV 2 aA (ys := [⟨(s.sems[k]).m, y0⟩]) rfl rfl rfl rfl rfl rfl rfl rfl rfl (by decide) ⟨rfl, rfl⟩ rfl z31 z37 z37 z86 (fun c2 => ?_)
   refine ⟨⟨(k + 1, c2, L0 ++ [⟨(s.sems[k]).m, y0⟩]), hlt, by rw [List.map_append]; exact bL hlt hL0 rfl⟩, ?_, by simp only; omega⟩
   refine aX (.joinO [2, 3] (Gs := [[_], _]) z108 rfl (G := (L0 ++ [(⟨(s.sems[k]).m, y0⟩ : SemH)]).flatMap qM) z44) ?_
   exact aC [1, 0, 3, 4, 5, 6] zw1 zw0 zw1 zw5 zw3 rfl rfl
 have hge : s.sems.length ≤ k := by simpa using g
 rw [List.take_of_length_le z79] at hL0
 refine LoopW.mk ⟨{ q : Nat × Sl × List OnceH // q.1 ≤ s.onces.length ∧ q.2.2.map (·.m) = (s.onces.map (·.m)).take q.1 },
   fun q => .mk [(1, .p 0 0), (2, .p 1 0), (3, .p 2 0), (5, .v (.int .i64 (q.1.1 : Int)))] 3 0 [(0, 46, 9), (1, 46, 9), (2, 46, 9)] [((0, 0), .v (s.h0.val s.places.length)), ((0, 1), .v (s.h1.val s.status.length)), ((0, 2), .v (s.h2.val s.sems.length)), ((0, 3), .v (s.h3.val s.onces.length)), ((0, 4), .v (s.h4.val s.groups.length)), ((0, 5), .v (s.h5.val s.barriers.length)), ((0, 6), .v (s.h6.val s.chans.length)), ((0, 7), .v (s.h7.val s.said.length)), ((0, 8), .v (.int .i64 s.fault)), ((2, 0), .v (a.val s.places.length)), ((2, 1), .v (b.val s.status.length)), ((2, 2), .v (c0.val L0.length)), ((2, 3), .v (q.1.2.1.val q.1.2.2.length)), ((2, 4), .v (.slice none 0 0)), ((2, 5), .v (.slice none 0 0)), ((2, 6), .v (.slice none 0 0)), ((2, 7), .v (d.val s.said.length)), ((2, 8), .v (.int .i64 s.fault))] [own q.1.2.1 98 fP 4 q.1.2.2, fO (q.1.2.2.flatMap qB), fO (oW c0 L0), own a 3 aL 1 s.places, own b 3 aL 1 s.status, own d 3 aL 1 s.said, fR (aJ s)],
   fun q => s.onces.length - q.1.1, ⟨(0, ⟨none, 0⟩, []), Nat.zero_le _, by simp⟩, ?_, ?_⟩
 · refine aX (.joinO [0, 1] (Gs := [[_], _]) z108 rfl (G := oW c0 L0) (.of_eq (by simp [oW, jN]))) ?_
   refine aX (.joinO [] (Gs := []) trivial rfl (.refl _)) ?_
   exact aC [99, 0, 1, 2, 3, 4, 5] zw2 zw0 zw2 zw5 zw4 rfl rfl
 rintro ⟨⟨k, c1, L1⟩, hk, hL1⟩
 simp only at hk hL1
 have ln1 : L1.length = k := by have := congrArg List.length hL1; simp at this; omega
 apply CaseB.mk <;> intro g
 · have hlt : k < s.onces.length := by simpa using g
   have hw := bA k _ hlt (by omega)
   have hsm := (cY b3).2 _ (List.getElem_mem hlt)
   unfold Once.small20 at hsm
   refine aH aA z88 z88 z88 200 [((0, 3), .v (s.h3.val s.onces.length))] [6] [_] z117 z120 ⟨rfl, trivial⟩ rfl ?_
   refine bM (ti := aZ tab) dM aA rfl rfl rfl rfl rfl ⟨rfl, rfl⟩ (aN 0 rfl (.trans (.R_R (cF s)) (.ofR bK))) k rfl z37 (fun ad => ?_)
   refine BothW.mk ?_ ?_
   all_goals
     refine bV _ gK0 rfl rfl rfl rfl ⟨rfl, rfl⟩ (fun A w hW => wK _ _ w ⟨hW.get 6 rfl (.trans (.R_R (cF s)) (.ofR (lF _ _ k hlt))), trivial⟩ (by omega)) ?_
     rintro v L ⟨y0, rfl, rfl⟩
   rotate_left
   · refine BothW.mk ?_ ?_
     all_goals
       refine AllSl.mk fun u2 => ?_
       refine dB (ti := aZ tab) dM 2 aA (ys := [⟨(s.onces[k]).m, y0⟩]) rfl rfl rfl rfl rfl rfl rfl rfl rfl (by decide) ⟨rfl, rfl⟩ rfl z31 z37 z37 z86 (fun c2 => ?_)
       refine ⟨⟨(k + 1, c2, L1 ++ [⟨(s.onces[k]).m, y0⟩]), hlt, by rw [List.map_append]; exact bL hlt hL1 rfl⟩, ?_, by simp only; omega⟩
       refine aX (.joinO [2, 3] (Gs := [[_], _]) z108 rfl (G := (L1 ++ [(⟨(s.onces[k]).m, y0⟩ : OnceH)]).flatMap qB) z42) ?_
       exact aC [1, 0, 3, 4, 5, 6, 7] zw1 zw0 zw1 zw5 zw3 rfl rfl
   refine AllSl.mk fun u2 => ?_
   refine dB (ti := aZ tab) dM 2 aA (ys := [⟨(s.onces[k]).m, y0⟩]) rfl rfl rfl rfl rfl rfl rfl rfl rfl (by decide) ⟨rfl, rfl⟩ rfl z31 z37 z37 z86 (fun c2 => ?_)
   refine ⟨⟨(k + 1, c2, L1 ++ [⟨(s.onces[k]).m, y0⟩]), hlt, by rw [List.map_append]; exact bL hlt hL1 rfl⟩, ?_, by simp only; omega⟩
   refine aX (.joinO [2, 3] (Gs := [[_], _]) z108 rfl (G := (L1 ++ [(⟨(s.onces[k]).m, y0⟩ : OnceH)]).flatMap qB) z42) ?_
   exact aC [1, 0, 3, 4, 5, 6, 7] zw1 zw0 zw1 zw5 zw3 rfl rfl
 have hge : s.onces.length ≤ k := by simpa using g
 rw [List.take_of_length_le z79] at hL1
 refine LoopW.mk ⟨{ q : Nat × Sl × List GroupH // q.1 ≤ s.groups.length ∧ q.2.2.map (·.m) = (s.groups.map (·.m)).take q.1 },
   fun q => .mk [(1, .p 0 0), (2, .p 1 0), (3, .p 2 0), (6, .v (.int .i64 (q.1.1 : Int)))] 3 0 [(0, 46, 9), (1, 46, 9), (2, 46, 9)] [((0, 0), .v (s.h0.val s.places.length)), ((0, 1), .v (s.h1.val s.status.length)), ((0, 2), .v (s.h2.val s.sems.length)), ((0, 3), .v (s.h3.val s.onces.length)), ((0, 4), .v (s.h4.val s.groups.length)), ((0, 5), .v (s.h5.val s.barriers.length)), ((0, 6), .v (s.h6.val s.chans.length)), ((0, 7), .v (s.h7.val s.said.length)), ((0, 8), .v (.int .i64 s.fault)), ((2, 0), .v (a.val s.places.length)), ((2, 1), .v (b.val s.status.length)), ((2, 2), .v (c0.val L0.length)), ((2, 3), .v (c1.val L1.length)), ((2, 4), .v (q.1.2.1.val q.1.2.2.length)), ((2, 5), .v (.slice none 0 0)), ((2, 6), .v (.slice none 0 0)), ((2, 7), .v (d.val s.said.length)), ((2, 8), .v (.int .i64 s.fault))] [own q.1.2.1 88 eQ 2 q.1.2.2, fO (q.1.2.2.flatMap lE), fO (mK c1 L1), fO (oW c0 L0), own a 3 aL 1 s.places, own b 3 aL 1 s.status, own d 3 aL 1 s.said, fR (aJ s)],
   fun q => s.groups.length - q.1.1, ⟨(0, ⟨none, 0⟩, []), Nat.zero_le _, by simp⟩, ?_, ?_⟩
 · refine aX (.joinO [0, 1] (Gs := [[_], _]) z108 rfl (G := mK c1 L1) (.of_eq (by simp [mK, jN]))) ?_
   refine aX (.joinO [] (Gs := []) trivial rfl (.refl _)) ?_
   exact aC [99, 0, 1, 2, 3, 4, 5, 6] zw2 zw0 zw2 zw5 zw4 rfl rfl
 rintro ⟨⟨k, c2, L2⟩, hk, hL2⟩
 simp only at hk hL2
 have ln2 : L2.length = k := by have := congrArg List.length hL2; simp at this; omega
 apply CaseB.mk <;> intro g
 · have hlt : k < s.groups.length := by simpa using g
   have hw := bA k _ hlt (by omega)
   have hsm := (cY b4).2 _ (List.getElem_mem hlt)
   unfold Group.small20 at hsm
   refine aH aA z88 z88 z88 200 [((0, 4), .v (s.h4.val s.groups.length))] [7] [_] z117 z120 ⟨rfl, trivial⟩ rfl ?_
   refine bM (ti := aZ tab) cP aA rfl rfl rfl rfl rfl ⟨rfl, rfl⟩ (aN 0 rfl (.trans (.R_R (bZ s)) (.ofR bK))) k rfl z37 (fun ad => ?_)
   refine bM (ti := aZ tab) cP aA rfl rfl rfl rfl rfl ⟨rfl, rfl⟩ (aN 0 rfl (.trans (.R_R (bZ s)) (.ofR bK))) k rfl z37 (fun ad2 => ?_)
   refine BothW.mk ?_ ?_
   · skip
     refine AllSl.mk fun u1 => ?_
     refine dB (ti := aZ tab) aI 0 aA (xs := []) (ys := (s.groups[k]).m.waits) rfl rfl rfl rfl rfl rfl rfl rfl rfl (by decide) ⟨rfl, rfl⟩ rfl (aN 8 rfl (.trans (.R_R (bZ s)) (.ofR (iE _ _ k hlt)))) z37 z37 z86 (fun y0 => ?_)
     refine AllSl.mk fun u2 => ?_
     refine dB (ti := aZ tab) cP 2 aA (ys := [⟨(s.groups[k]).m, y0⟩]) rfl rfl rfl rfl rfl rfl rfl rfl rfl (by decide) ⟨rfl, rfl⟩ rfl z31 z37 z37 z86 (fun c2 => ?_)
     refine ⟨⟨(k + 1, c2, L2 ++ [⟨(s.groups[k]).m, y0⟩]), hlt, by rw [List.map_append]; exact bL hlt hL2 rfl⟩, ?_, by simp only; omega⟩
     refine aX (.joinO [2, 3] (Gs := [[_], _]) z108 rfl (G := (L2 ++ [(⟨(s.groups[k]).m, y0⟩ : GroupH)]).flatMap lE) z41) ?_
     exact aC [1, 0, 3, 4, 5, 6, 7, 8] zw1 zw0 zw1 zw5 zw3 rfl rfl
   refine AllSl.mk fun u1 => ?_
   refine BothW.mk ?_ ?_
   · skip
     refine dB (ti := aZ tab) aI 0 aA (xs := []) (ys := (s.groups[k]).m.waits) rfl rfl rfl rfl rfl rfl rfl rfl rfl (by decide) ⟨rfl, rfl⟩ rfl (aN 8 rfl (.trans (.R_R (bZ s)) (.ofR (iE _ _ k hlt)))) z37 z37 z86 (fun y0 => ?_)
     refine AllSl.mk fun u2 => ?_
     refine dB (ti := aZ tab) cP 2 aA (ys := [⟨(s.groups[k]).m, y0⟩]) rfl rfl rfl rfl rfl rfl rfl rfl rfl (by decide) ⟨rfl, rfl⟩ rfl z31 z37 z37 z86 (fun c2 => ?_)
     refine ⟨⟨(k + 1, c2, L2 ++ [⟨(s.groups[k]).m, y0⟩]), hlt, by rw [List.map_append]; exact bL hlt hL2 rfl⟩, ?_, by simp only; omega⟩
     refine aX (.joinO [2, 3] (Gs := [[_], _]) z108 rfl (G := (L2 ++ [(⟨(s.groups[k]).m, y0⟩ : GroupH)]).flatMap lE) z41) ?_
     exact aC [1, 0, 3, 4, 5, 6, 7, 8] zw1 zw0 zw1 zw5 zw3 rfl rfl
   refine dB (ti := aZ tab) aI 0 aA (xs := []) (ys := (s.groups[k]).m.waits) rfl rfl rfl rfl rfl rfl rfl rfl rfl (by decide) ⟨rfl, rfl⟩ rfl (aN 8 rfl (.trans (.R_R (bZ s)) (.ofR (iE _ _ k hlt)))) z37 z37 z86 (fun y0 => ?_)
   refine BothW.mk ?_ ?_
   all_goals
     refine AllSl.mk fun u2 => ?_
     refine dB (ti := aZ tab) cP 2 aA (ys := [⟨(s.groups[k]).m, y0⟩]) rfl rfl rfl rfl rfl rfl rfl rfl rfl (by decide) ⟨rfl, rfl⟩ rfl z31 z37 z37 z86 (fun c2 => ?_)
     refine ⟨⟨(k + 1, c2, L2 ++ [⟨(s.groups[k]).m, y0⟩]), hlt, by rw [List.map_append]; exact bL hlt hL2 rfl⟩, ?_, by simp only; omega⟩
     refine aX (.joinO [2, 3] (Gs := [[_], _]) z108 rfl (G := (L2 ++ [(⟨(s.groups[k]).m, y0⟩ : GroupH)]).flatMap lE) z41) ?_
     exact aC [1, 0, 3, 4, 5, 6, 7, 8] zw1 zw0 zw1 zw5 zw3 rfl rfl
 have hge : s.groups.length ≤ k := by simpa using g
 rw [List.take_of_length_le z79] at hL2
 refine LoopW.mk ⟨{ q : Nat × Sl × List BarrierH // q.1 ≤ s.barriers.length ∧ q.2.2.map (·.m) = (s.barriers.map (·.m)).take q.1 },
   fun q => .mk [(1, .p 0 0), (2, .p 1 0), (3, .p 2 0), (7, .v (.int .i64 (q.1.1 : Int)))] 3 0 [(0, 46, 9), (1, 46, 9), (2, 46, 9)] [((0, 0), .v (s.h0.val s.places.length)), ((0, 1), .v (s.h1.val s.status.length)), ((0, 2), .v (s.h2.val s.sems.length)), ((0, 3), .v (s.h3.val s.onces.length)), ((0, 4), .v (s.h4.val s.groups.length)), ((0, 5), .v (s.h5.val s.barriers.length)), ((0, 6), .v (s.h6.val s.chans.length)), ((0, 7), .v (s.h7.val s.said.length)), ((0, 8), .v (.int .i64 s.fault)), ((2, 0), .v (a.val s.places.length)), ((2, 1), .v (b.val s.status.length)), ((2, 2), .v (c0.val L0.length)), ((2, 3), .v (c1.val L1.length)), ((2, 4), .v (c2.val L2.length)), ((2, 5), .v (q.1.2.1.val q.1.2.2.length)), ((2, 6), .v (.slice none 0 0)), ((2, 7), .v (d.val s.said.length)), ((2, 8), .v (.int .i64 s.fault))] [own q.1.2.1 91 dD 3 q.1.2.2, fO (q.1.2.2.flatMap fF), fO (kK c2 L2), fO (mK c1 L1), fO (oW c0 L0), own a 3 aL 1 s.places, own b 3 aL 1 s.status, own d 3 aL 1 s.said, fR (aJ s)],
   fun q => s.barriers.length - q.1.1, ⟨(0, ⟨none, 0⟩, []), Nat.zero_le _, by simp⟩, ?_, ?_⟩
 · refine aX (.joinO [0, 1] (Gs := [[_], _]) z108 rfl (G := kK c2 L2) (.of_eq (by simp [kK, jN]))) ?_
   refine aX (.joinO [] (Gs := []) trivial rfl (.refl _)) ?_
   exact aC [99, 0, 1, 2, 3, 4, 5, 6, 7] zw2 zw0 zw2 zw5 zw4 rfl rfl
 rintro ⟨⟨k, c3, L3⟩, hk, hL3⟩
 simp only at hk hL3
 have ln3 : L3.length = k := by have := congrArg List.length hL3; simp at this; omega
 apply CaseB.mk <;> intro g
 · have hlt : k < s.barriers.length := by simpa using g
   have hw := bA k _ hlt (by omega)
   have hsm := (cY b5).2 _ (List.getElem_mem hlt)
   unfold Barrier.small20 at hsm
   refine aF cH aA rfl rfl rfl rfl rfl ⟨rfl, rfl⟩ (aN 8 rfl (.trans (.R_R (bN s)) (.ofR bK))) k rfl z37 (fun ad => ?_)
   refine aH aA z88 z88 z88 200 [((3, 0), .v (.int .i64 (s.barriers[k]).m.parties)), ((3, 1), .v (.int .i64 (s.barriers[k]).m.round)), ((3, 2), .v ((s.barriers[k]).q.val (s.barriers[k]).m.waits.length))] [8] [_] z102 z113 ⟨rfl, trivial⟩ rfl ?_
   refine BothW.mk ?_ ?_
   · skip
     refine AllSl.mk fun u1 => ?_
     refine dB (ti := aZ tab) aI 0 aA (xs := []) (ys := (s.barriers[k]).m.waits) rfl rfl rfl rfl rfl rfl rfl rfl rfl (by decide) ⟨rfl, rfl⟩ rfl (aN 9 rfl (.trans (.R_R (bN s)) (.ofR (fJ _ _ k hlt)))) z37 z37 z86 (fun y0 => ?_)
     refine AllSl.mk fun u2 => ?_
     refine dB (ti := aZ tab) cH 2 aA (ys := [⟨(s.barriers[k]).m, y0⟩]) rfl rfl rfl rfl rfl rfl rfl rfl rfl (by decide) ⟨rfl, rfl⟩ rfl z31 z37 z37 z86 (fun c2 => ?_)
     refine ⟨⟨(k + 1, c2, L3 ++ [⟨(s.barriers[k]).m, y0⟩]), hlt, by rw [List.map_append]; exact bL hlt hL3 rfl⟩, ?_, by simp only; omega⟩
     refine aX (.joinO [2, 3] (Gs := [[_], _]) z108 rfl (G := (L3 ++ [(⟨(s.barriers[k]).m, y0⟩ : BarrierH)]).flatMap fF) z40) ?_
     exact aC [1, 0, 3, 4, 5, 6, 7, 8, 9] zw1 zw0 zw1 zw5 zw3 rfl rfl
   refine AllSl.mk fun u1 => ?_
   refine BothW.mk ?_ ?_
   · skip
     refine dB (ti := aZ tab) aI 0 aA (xs := []) (ys := (s.barriers[k]).m.waits) rfl rfl rfl rfl rfl rfl rfl rfl rfl (by decide) ⟨rfl, rfl⟩ rfl (aN 9 rfl (.trans (.R_R (bN s)) (.ofR (fJ _ _ k hlt)))) z37 z37 z86 (fun y0 => ?_)
     refine AllSl.mk fun u2 => ?_
     refine dB (ti := aZ tab) cH 2 aA (ys := [⟨(s.barriers[k]).m, y0⟩]) rfl rfl rfl rfl rfl rfl rfl rfl rfl (by decide) ⟨rfl, rfl⟩ rfl z31 z37 z37 z86 (fun c2 => ?_)
     refine ⟨⟨(k + 1, c2, L3 ++ [⟨(s.barriers[k]).m, y0⟩]), hlt, by rw [List.map_append]; exact bL hlt hL3 rfl⟩, ?_, by simp only; omega⟩
     refine aX (.joinO [2, 3] (Gs := [[_], _]) z108 rfl (G := (L3 ++ [(⟨(s.barriers[k]).m, y0⟩ : BarrierH)]).flatMap fF) z40) ?_
     exact aC [1, 0, 3, 4, 5, 6, 7, 8, 9] zw1 zw0 zw1 zw5 zw3 rfl rfl
   refine dB (ti := aZ tab) aI 0 aA (xs := []) (ys := (s.barriers[k]).m.waits) rfl rfl rfl rfl rfl rfl rfl rfl rfl (by decide) ⟨rfl, rfl⟩ rfl (aN 9 rfl (.trans (.R_R (bN s)) (.ofR (fJ _ _ k hlt)))) z37 z37 z86 (fun y0 => ?_)
   refine BothW.mk ?_ ?_
   all_goals
     refine AllSl.mk fun u2 => ?_
     refine dB (ti := aZ tab) cH 2 aA (ys := [⟨(s.barriers[k]).m, y0⟩]) rfl rfl rfl rfl rfl rfl rfl rfl rfl (by decide) ⟨rfl, rfl⟩ rfl z31 z37 z37 z86 (fun c2 => ?_)
     refine ⟨⟨(k + 1, c2, L3 ++ [⟨(s.barriers[k]).m, y0⟩]), hlt, by rw [List.map_append]; exact bL hlt hL3 rfl⟩, ?_, by simp only; omega⟩
     refine aX (.joinO [2, 3] (Gs := [[_], _]) z108 rfl (G := (L3 ++ [(⟨(s.barriers[k]).m, y0⟩ : BarrierH)]).flatMap fF) z40) ?_
     exact aC [1, 0, 3, 4, 5, 6, 7, 8, 9] zw1 zw0 zw1 zw5 zw3 rfl rfl
 have hge : s.barriers.length ≤ k := by simpa using g
 rw [List.take_of_length_le z79] at hL3
 refine LoopW.mk ⟨{ q : Nat × Sl × List ChanH // q.1 ≤ s.chans.length ∧ q.2.2.map (·.m) = (s.chans.map (·.m)).take q.1 },
   fun q => .mk [(1, .p 0 0), (2, .p 1 0), (3, .p 2 0), (9, .v (.int .i64 (q.1.1 : Int)))] 3 0 [(0, 46, 9), (1, 46, 9), (2, 46, 9)] [((0, 0), .v (s.h0.val s.places.length)), ((0, 1), .v (s.h1.val s.status.length)), ((0, 2), .v (s.h2.val s.sems.length)), ((0, 3), .v (s.h3.val s.onces.length)), ((0, 4), .v (s.h4.val s.groups.length)), ((0, 5), .v (s.h5.val s.barriers.length)), ((0, 6), .v (s.h6.val s.chans.length)), ((0, 7), .v (s.h7.val s.said.length)), ((0, 8), .v (.int .i64 s.fault)), ((2, 0), .v (a.val s.places.length)), ((2, 1), .v (b.val s.status.length)), ((2, 2), .v (c0.val L0.length)), ((2, 3), .v (c1.val L1.length)), ((2, 4), .v (c2.val L2.length)), ((2, 5), .v (c3.val L3.length)), ((2, 6), .v (q.1.2.1.val q.1.2.2.length)), ((2, 7), .v (d.val s.said.length)), ((2, 8), .v (.int .i64 s.fault))] [own q.1.2.1 95 gW 5 q.1.2.2, fO (q.1.2.2.flatMap jO), fO (iD c3 L3), fO (kK c2 L2), fO (mK c1 L1), fO (oW c0 L0), own a 3 aL 1 s.places, own b 3 aL 1 s.status, own d 3 aL 1 s.said, fR (aJ s)],
   fun q => s.chans.length - q.1.1, ⟨(0, ⟨none, 0⟩, []), Nat.zero_le _, by simp⟩, ?_, ?_⟩
 · refine aX (.joinO [0, 1] (Gs := [[_], _]) z108 rfl (G := iD c3 L3) (.of_eq (by simp [iD, jN]))) ?_
   refine aX (.joinO [] (Gs := []) trivial rfl (.refl _)) ?_
   exact aC [99, 0, 1, 2, 3, 4, 5, 6, 7, 8] zw2 zw0 zw2 zw5 zw4 rfl rfl
 rintro ⟨⟨k, c4, L4⟩, hk, hL4⟩
 simp only at hk hL4
 have ln4 : L4.length = k := by have := congrArg List.length hL4; simp at this; omega
 apply CaseB.mk <;> intro g
 · have hlt : k < s.chans.length := by simpa using g
   have hw := bA k _ hlt (by omega)
   have hsm := (cY b6).2 _ (List.getElem_mem hlt)
   obtain ⟨z0, z1, z2⟩ := hsm
   refine aH aA z88 z88 z88 200 [((0, 6), .v (s.h6.val s.chans.length))] [9] [_] z117 z120 ⟨rfl, trivial⟩ rfl ?_
   refine bM (ti := aZ tab) cX aA rfl rfl rfl rfl rfl ⟨rfl, rfl⟩ (aN 0 rfl (.trans (.R_R (bC s)) (.ofR bK))) k rfl z37 (fun ad => ?_)
   refine BothW.mk ?_ ?_
   all_goals
     refine bV _ dG0 rfl rfl rfl rfl ⟨rfl, rfl⟩ (fun A w hW => yM _ _ _ _ w ⟨hW.get 9 rfl (.trans (.R_R (bC s)) (.ofR (vP _ _ k hlt))), hW.get 9 rfl (.trans (.R_R (bC s)) (.ofR (lG _ _ k hlt))), hW.get 9 rfl (.trans (.R_R (bC s)) (.ofR (nC _ _ k hlt))), trivial⟩ ⟨by omega, by omega, by omega⟩) ?_
     rintro v L ⟨y0, y1, y2, rfl, rfl⟩
   rotate_left
   · refine BothW.mk ?_ ?_
     all_goals
       refine AllSl.mk fun u2 => ?_
       refine dB (ti := aZ tab) cX 4 aA (ys := [⟨(s.chans[k]).m, y0, y1, y2⟩]) rfl rfl rfl rfl rfl rfl rfl rfl rfl (by decide) ⟨rfl, rfl⟩ rfl z31 z37 z37 z86 (fun c2 => ?_)
       refine ⟨⟨(k + 1, c2, L4 ++ [⟨(s.chans[k]).m, y0, y1, y2⟩]), hlt, by rw [List.map_append]; exact bL hlt hL4 rfl⟩, ?_, by simp only; omega⟩
       refine aX (.joinO [2, 3, 4, 5] (Gs := [[_], [_], [_], _]) z96 rfl (G := (L4 ++ [(⟨(s.chans[k]).m, y0, y1, y2⟩ : ChanH)]).flatMap jO) z43) ?_
       exact aC [1, 0, 3, 4, 5, 6, 7, 8, 9, 10] zw1 zw0 zw1 zw5 zw3 rfl rfl
   refine AllSl.mk fun u2 => ?_
   refine dB (ti := aZ tab) cX 4 aA (ys := [⟨(s.chans[k]).m, y0, y1, y2⟩]) rfl rfl rfl rfl rfl rfl rfl rfl rfl (by decide) ⟨rfl, rfl⟩ rfl z31 z37 z37 z86 (fun c2 => ?_)
   refine ⟨⟨(k + 1, c2, L4 ++ [⟨(s.chans[k]).m, y0, y1, y2⟩]), hlt, by rw [List.map_append]; exact bL hlt hL4 rfl⟩, ?_, by simp only; omega⟩
   refine aX (.joinO [2, 3, 4, 5] (Gs := [[_], [_], [_], _]) z96 rfl (G := (L4 ++ [(⟨(s.chans[k]).m, y0, y1, y2⟩ : ChanH)]).flatMap jO) z43) ?_
   exact aC [1, 0, 3, 4, 5, 6, 7, 8, 9, 10] zw1 zw0 zw1 zw5 zw3 rfl rfl
 have hge : s.chans.length ≤ k := by simpa using g
 rw [List.take_of_length_le z79] at hL4
 refine aU (.joinO [0, 1] (Gs := [[_], _]) z108 rfl (G := nN c4 L4) (.of_eq (by simp [nN, jN]))) ?_
 generalize hy : (⟨s.places, s.status, L0, L1, L2, L3, L4, s.said, s.fault, a, b, c0, c1, c2, c3, c4, d⟩ : StateH) = y
 refine aU (.joinO [5, 6, 4, 3, 2, 1, 0, 7] (Gs := [[_], [_], _, _, _, _, _, [_]]) ⟨.inl ⟨_, rfl, .own⟩, .inl ⟨_, rfl, .own⟩, .inl ⟨_, rfl, .o⟩, .inl ⟨_, rfl, .o⟩, .inl ⟨_, rfl, .o⟩, .inl ⟨_, rfl, .o⟩, .inl ⟨_, rfl, .o⟩, .inl ⟨_, rfl, .own⟩, trivial⟩ rfl (G := aJ y) (by subst hy; exact .of_eq (by simp [aJ]))) ?_
 exact bY [0] ⟨y, by rw [← hy]; rfl, by rw [← hy]; simp [StateH.pure, hL0, hL1, hL2, hL3, hL4], rfl⟩ z118 rfl ⟨rfl, trivial⟩ (fun _ => rfl)
theorem zQ (p : Prog) (s : State) (hs : s.small20) : ∃ A : List Int, A.length ≤ 1048576 ∧ ∀ xs : List Int, (Fits p s → xs = dK s) → (¬ Fits p s → xs = []) → xs = A := by
 by_cases h : Fits p s
 · refine ⟨dK s, ?_, fun xs h1 _ => h1 h⟩
   have h2 : s.status.length ≤ 1048576 := hs.2.1
   rw [dK]
   split
   · exact Nat.le_trans (qV _) h2
   · simp
 · exact ⟨[], by simp, fun xs _ h2 => h2 h⟩
theorem fQ0 {p : Prog} {s : State} {t : Int} (ft : Fits p s) (h : t ∈ dK s) (hl : (doM p s t).said.length ≤ 64) : (doM p s t).small20 := by
 by_cases hw : zI p s t
 · obtain ⟨k, ops, a, st, op, rfl, r⟩ := rdy ft h
   rw [zI, r.at_] at hw
   obtain ⟨k7, hw⟩ := hw
   have e : doM p s (k : Int) = bI (setBarrier s op ⟨0, 0, []⟩) k 1 := by
     simp only [doM, r.at_, dG, k7, iW, hw]
     simp
   rw [e]
   obtain ⟨b0, b1, b2, b3, b4, b5, b6, b7⟩ := ft.small
   refine ⟨b0, by simpa [bI, setBarrier] using b1, b2, b3, b4, ⟨by simpa [bI, setBarrier] using b5.1, fun x hx => ?_⟩, b6, b7⟩
   rcases List.mem_or_eq_of_mem_set hx with hx | rfl
   · exact b5.2 x hx
   · simp [Barrier.small20]
 · exact (xX ft h hl hw).small
def mS0 (p : Prog) (s : State) (t : Int) (v : Value) (L : List Fct) : Prop := ∃ (y : StateH) (b : Bool), v = .tuple #[aM y, .bool b] ∧ (b = true ↔ StepOk p s t) ∧ (b = true → y.pure = doM p s t) ∧ (b = false → y.pure = State.zero) ∧ L = [fN (aJ y)]
theorem wP (p : ProgH) (s : StateH) (t : Int) (w : World) (h : At w [fR (bD p), fR (aJ s)]) (hp : p.pure.small20) (hs : s.pure.small20) :
   Calls Tryz.prog 141 #[eJ p, aM s, .int .i64 t] w (Ret w (mS0 p.pure s.pure t)) := by
 have hb : s.status.length ≤ 1048576 := hs.2.1
 obtain ⟨A, hA, one⟩ := zQ p.pure s.pure hs
 refine mF Tryz.func141 rfl aA w _ rfl _ rfl _ h ⟨rfl, rfl, rfl, rfl, trivial⟩ _ _ _ (by decide) ?_
 refine aB _ cl161 rfl rfl rfl rfl ⟨rfl, rfl⟩ (fun A w hW => uI p s w ⟨hW.get 0 rfl (.refl _), hW.get 1 rfl (.refl _), trivial⟩ hp hs) ?_
 rintro v L ⟨yr, xs, rfl, h1, h2, rfl⟩
 have hxl : xs.length ≤ 1048576 := by rw [one xs h1 h2]; exact hA
 refine aB _ lO rfl rfl rfl rfl ⟨rfl, rfl⟩ (fun A w hW => iT yr xs t w ⟨z30, trivial⟩ (by omega)) ?_
 rintro v L ⟨rfl, rfl⟩
 apply CaseB.mk <;> intro g
 · have hn : t ∉ xs := fun hm => by have := (dU xs t).2 hm; have g' := of_decide_eq_true g; omega
   have n : ¬ StepOk p.pure s.pure t := fun e => hn (by rw [h1 e.1]; exact e.2.1)
   refine aU (.joinO [90] (Gs := [_]) ⟨.inr ⟨Nat.le_of_ble_eq_true rfl, rS⟩, trivial⟩ rfl (G := aJ StateH.zero) (.of_eq (by simp))) ?_
   refine aU (Shift.pack (G := aJ StateH.zero) (fun g hg => jV 0 rfl hg)) ?_
   exact bY [0] ⟨StateH.zero, false, rfl, tno n, fun e => (by cases e), fun _ => rfl, rfl⟩ z118 rfl ⟨rfl, trivial⟩ (fun _ => rfl)
 have hmx : t ∈ xs := (dU xs t).1 (by have g' := of_decide_eq_false g; omega)
 have ft : Fits p.pure s.pure := Classical.byContradiction fun n => by rw [h2 n] at hmx; cases hmx
 have hm : t ∈ dK s.pure := by rw [← h1 ft]; exact hmx
 obtain ⟨_, k, _, rfl, _⟩ := wG hm
 refine mW { y : StateH // y.pure = doM p.pure s.pure k } (fun y => .mk [(3, .p 0 0), (6, .p 2 0), (8, .p 3 0)] 4 0 [(0, 38, 5), (2, 46, 9), (3, 46, 9)] [((0, 0), .v (p.h0.val p.sems.length)), ((0, 1), .v (p.h1.val p.groups.length)), ((0, 2), .v (p.h2.val p.barriers.length)), ((0, 3), .v (p.h3.val p.rooms.length)), ((0, 4), .v (p.h4.val p.threads.length)), ((3, 0), .v (y.1.h0.val y.1.places.length)), ((3, 1), .v (y.1.h1.val y.1.status.length)), ((3, 2), .v (y.1.h2.val y.1.sems.length)), ((3, 3), .v (y.1.h3.val y.1.onces.length)), ((3, 4), .v (y.1.h4.val y.1.groups.length)), ((3, 5), .v (y.1.h5.val y.1.barriers.length)), ((3, 6), .v (y.1.h6.val y.1.chans.length)), ((3, 7), .v (y.1.h7.val y.1.said.length)), ((3, 8), .v (.int .i64 y.1.fault))] [fN (aJ y.1), fR (bD p)]) ?_ ?_
 · refine aH aA z88 z88 z88 200 [((0, 0), .v (p.h0.val p.sems.length)), ((0, 1), .v (p.h1.val p.groups.length)), ((0, 2), .v (p.h2.val p.barriers.length)), ((0, 3), .v (p.h3.val p.rooms.length)), ((0, 4), .v (p.h4.val p.threads.length)), ((1, 0), .v (s.h0.val s.places.length)), ((1, 1), .v (s.h1.val s.status.length)), ((1, 2), .v (s.h2.val s.sems.length)), ((1, 3), .v (s.h3.val s.onces.length)), ((1, 4), .v (s.h4.val s.groups.length)), ((1, 5), .v (s.h5.val s.barriers.length)), ((1, 6), .v (s.h6.val s.chans.length)), ((1, 7), .v (s.h7.val s.said.length)), ((1, 8), .v (.int .i64 s.fault))] [] [] z90 z92 trivial rfl ?_
   refine BothW.mk ?_ ?_
   all_goals
     refine bV _ kQ0 rfl rfl rfl rfl ⟨rfl, rfl⟩ (fun A w hW => bC0 s w ⟨hW.get 2 rfl (.refl _), trivial⟩ hs) ?_
     rintro v L ⟨y, rfl, hy, rfl⟩
   refine BothW.mk ?_ ?_
   all_goals
     conv => whnf
     refine jU0 (Shift.splitO 0 (L := mN y) (G := aJ y) (G' := fH y) rfl (iI y)) z86 ?_
     refine jL _ [0, 1, 2, 3, 4, 5, 6, 7, 8] (G := [_, _, _, _, _, _, _, _, _]) cl162 rfl rfl rfl rfl ⟨rfl, rfl⟩ z106 z95 z86 (fun A w hW => (mR0 p y k (by rw [hy]; exact ft) (by rw [hy]; exact hm) w (hW.atG [0, 1, 2, 3, 4, 5, 6, 7, 8] (G := [_, _, _, _, _, _, _, _, _]) z106 rfl z95 [10] (Fo := [_]) ⟨⟨_, rfl, z49⟩, trivial⟩ rfl))) ?_
     rintro v L ⟨y2, rfl, hy2, rfl⟩
     rw [hy] at hy2
     refine ⟨⟨y2, hy2⟩, ?_⟩
     exact aC [0, 2] zw2 zw0 zw2 zw5 zw4 rfl rfl
 rintro ⟨y2, hy2⟩
 simp only
 apply CaseB.mk <;> intro g
 · have hl : ¬ (doM p.pure s.pure k).said.length ≤ 64 := by
     have g' := of_decide_eq_true g
     rw [← hy2]
     show ¬ y2.said.length ≤ 64
     omega
   have n : ¬ StepOk p.pure s.pure k := fun e => hl e.2.2.1
   refine aU (.joinO [90] (Gs := [_]) ⟨.inr ⟨Nat.le_of_ble_eq_true rfl, rS⟩, trivial⟩ rfl (G := aJ StateH.zero) (.of_eq (by simp))) ?_
   refine aU (Shift.pack (G := aJ StateH.zero) (fun g hg => jV 0 rfl hg)) ?_
   exact bY [0] ⟨StateH.zero, false, rfl, tno n, fun e => (by cases e), fun _ => rfl, rfl⟩ z118 rfl ⟨rfl, trivial⟩ (fun _ => rfl)
 have hl : (doM p.pure s.pure k).said.length ≤ 64 := by
   have g' := of_decide_eq_false g
   rw [← hy2]
   show y2.said.length ≤ 64
   omega
 refine aB _ jF0 rfl rfl rfl rfl ⟨rfl, rfl⟩ (fun A w hW => kP p y2 w ⟨hW.get 1 rfl (.refl _), hW.get 0 rfl (oG _), trivial⟩ hp (by rw [hy2]; exact fQ0 ft hm hl)) ?_
 rintro v L ⟨b, rfl, hbb, rfl⟩
 rw [hy2] at hbb
 apply CaseB.mk <;> intro g
 · have n : ¬ StepOk p.pure s.pure k := fun e => by rw [hbb.2 e.2.2.2] at g; cases g
   refine aU (.joinO [90] (Gs := [_]) ⟨.inr ⟨Nat.le_of_ble_eq_true rfl, rS⟩, trivial⟩ rfl (G := aJ StateH.zero) (.of_eq (by simp))) ?_
   refine aU (Shift.pack (G := aJ StateH.zero) (fun g hg => jV 0 rfl hg)) ?_
   exact bY [0] ⟨StateH.zero, false, rfl, tno n, fun e => (by cases e), fun _ => rfl, rfl⟩ z118 rfl ⟨rfl, trivial⟩ (fun _ => rfl)
 have hok : StepOk p.pure s.pure k := ⟨ft, hm, hl, hbb.1 z85⟩
 exact bY [0] ⟨y2, true, rfl, vR hok, fun _ => hy2, fun e => (by cases e), rfl⟩ z118 rfl ⟨rfl, trivial⟩ (fun _ => rfl)
theorem Shift.packK {Zs G : List Fct} (k : Nat) (hk : Zs[k]? = some (fO G)) : Shift Zs (fN G :: Zs.eraseIdx k) := by
 intro E A n B M w h
 have hsub := h.sub (iO Zs k)
 have hdj := eB h.dj hk
 have hfk := h.fct _ (List.mem_of_getElem? hk)
 have key : ∀ g ∈ G, Rd (fO G) (Fct.fresh g) := fun g hg => sK (.ofO ⟨g, hg, .refl _⟩)
 have hP : ∀ g' ∈ G.map Fct.fresh, g'.P w := fun g' hg' => by
   obtain ⟨g, hg, rfl⟩ := List.mem_map.1 hg'
   exact (key g hg).p w hfk.1
 have hfoot : ∀ b, (fN G).foot b → (fO G).foot b := by
   rintro b ⟨g', hg', hb⟩
   obtain ⟨g, hg, rfl⟩ := List.mem_map.1 hg'
   exact (key g hg).foot b hb
 refine ⟨h.key, h.inj, h.mem, h.a0, h.n0, h.ext, fun f hf => ?_, ?_⟩
 · rcases List.mem_cons.1 hf with rfl | hf
   · exact ⟨hP, fun b hb => hfk.2.1 b (hfoot b hb), fun _ b hb => hfk.2.2 rfl b (hfoot b hb)⟩
   · exact hsub.fct f hf
 · rw [List.pairwise_cons]
   exact ⟨fun f hf ho b hb hb' => hdj f hf (.inl rfl) b (hfoot b hb) hb', hsub.dj⟩
inductive Reach (p : Prog) : Nat → State → Prop where
 | begin : Reach p 0 (start p)
 | step {n : Nat} {s : State} {t : Int} : Reach p n s → StepOk p s t → Reach p (n + 1) (doM p s t)
theorem Reach.small {p : Prog} (ok : ProgOk p) {n : Nat} {s : State} (h : Reach p n s) : s.small20 := by
 cases h with
 | begin => exact uB ok
 | step _ h => exact h.2.2.2.small
theorem ProgOk.small20 {p : Prog} (ok : ProgOk p) : p.small20 := by
 have h0 := ok.sems.1
 have h1 := ok.groups.1
 have h2 := ok.barriers.1
 have h3 := ok.rooms.1
 have h4 := ok.n4
 exact ⟨by omega, by omega, by omega, by omega, by omega, fun x hx => Nat.le_trans (ok.ops x hx).1 (by decide)⟩
theorem yB (s : State) : (dK s).length ≤ s.status.length := by
 rw [dK]
 split
 · exact qV _
 · exact Nat.zero_le _
theorem kJ0 (g : Nat) (bi : Sl) (rb : List UInt8) (p0 : Nat) (q : ProgH) (m : Nat) (w : World) (hg : Blk w g 183 (kA bi rb p0)) (h : AtP w g [slo bi eI 1 rb, fR (bD q)]) (hb : rb.length ≤ 2000) (hp : p0 < 1000000) (ok : ProgOk q.pure) (hm : m ≤ 1000) :
   Calls Tryz.prog 112 #[.pointer (some ⟨g, 0, none⟩), eJ q, .int .i64 (m : Int)] w (uG w g 183 2 fun v cs L => ∃ (y : StateH) (n p2 : Nat), v = aM y ∧ Reach q.pure n y.pure ∧ n ≤ m ∧ cs = kA bi rb p2 ∧ p2 ≤ p0 + m ∧ L = [fN (aJ y)]) := by
 have hq : q.pure.small20 := ok.small20
 refine jR0 Tryz.func112 rfl aA w _ rfl _ rfl _ 183 _ 2 rfl hg _ h ⟨rfl, rfl, rfl, rfl, trivial⟩ _ _ (by decide) ?_
 refine aB _ cl140 rfl rfl rfl rfl ⟨rfl, rfl⟩ (fun A w hW => zC q w ⟨hW.get 1 rfl (.refl _), trivial⟩ (cQ0 hq)) ?_
 rintro v L ⟨y0, b0, rfl, i1, i2, i3, rfl⟩
 have hst := i2 (i1.2 ok)
 refine LoopW.mk ⟨{ u : Nat × StateH × Nat // u.1 ≤ m ∧ Reach q.pure u.1 u.2.1.pure ∧ u.2.2 ≤ p0 + u.1 },
   fun u => .mk [(0, .p 0 0), (2, .v (.int .i64 (m : Int))), (4, .p 1 0), (6, .p 2 0), (7, .p 3 0), (9, .v (.int .i64 (u.1.1 : Int)))] 4 0 [(3, 46, 9), (2, 46, 9), (1, 38, 5), (0, 183, 2)] [((0, 0), .v (bi.val rb.length)), ((0, 1), .v (.int .i64 (u.1.2.2 : Int))), ((1, 0), .v (q.h0.val q.sems.length)), ((1, 1), .v (q.h1.val q.groups.length)), ((1, 2), .v (q.h2.val q.barriers.length)), ((1, 3), .v (q.h3.val q.rooms.length)), ((1, 4), .v (q.h4.val q.threads.length)), ((3, 0), .v (u.1.2.1.h0.val u.1.2.1.places.length)), ((3, 1), .v (u.1.2.1.h1.val u.1.2.1.status.length)), ((3, 2), .v (u.1.2.1.h2.val u.1.2.1.sems.length)), ((3, 3), .v (u.1.2.1.h3.val u.1.2.1.onces.length)), ((3, 4), .v (u.1.2.1.h4.val u.1.2.1.groups.length)), ((3, 5), .v (u.1.2.1.h5.val u.1.2.1.barriers.length)), ((3, 6), .v (u.1.2.1.h6.val u.1.2.1.chans.length)), ((3, 7), .v (u.1.2.1.h7.val u.1.2.1.said.length)), ((3, 8), .v (.int .i64 u.1.2.1.fault))] [fN (aJ u.1.2.1), slo bi eI 1 rb, fR (bD q)],
   fun u => m - u.1.1, ⟨(0, y0, p0), Nat.zero_le _, by rw [hst]; exact .begin, Nat.le_refl _⟩, ?_, ?_⟩
 · refine aX (Shift.packK (G := aJ y0) 0 rfl) ?_
   exact aC [0, 1, 2] zw2 zw0 zw2 zw5 zw4 rfl rfl
 rintro ⟨⟨k, yS, p1⟩, j1, j2, j3⟩
 simp only at j1 j2 j3 ⊢
 have hys := Reach.small ok j2
 have hsb : yS.status.length ≤ 1048576 := hys.2.1
 have hrl := yB yS.pure
 have hsb2 : yS.pure.status.length ≤ 1048576 := hys.2.1
 refine CaseB.mk (fun gk => ?_) (fun gk => ?_)
 · have hkm : k < m := by have := of_decide_eq_true gk; omega
   have hw := bA k _ hkm (by omega)
   refine aB _ lT0 rfl rfl rfl rfl ⟨rfl, rfl⟩ (fun A w hW => wJ yS w ⟨hW.get 0 rfl (oG _), trivial⟩ hsb) ?_
   rintro v L ⟨yr, rfl, rfl⟩
   refine CaseB.mk (fun g1 => ?_) (fun g1 => ?_)
   · exact jE [1] ⟨yS, k, p1, rfl, j2, by omega, rfl, by omega, rfl⟩ rfl rfl z118 rfl ⟨rfl, trivial⟩ (fun _ => rfl)
   have hr0 : 0 < (dK yS.pure).length := by
     rcases Nat.eq_zero_or_pos (dK yS.pure).length with h | h
     · rw [h] at g1; simp at g1
     · exact h
   refine mW { u : StateH × Bool × Nat // u.2.2 ≤ p1 + 1 ∧ (u.2.1 = true → Reach q.pure (k + 1) u.1.pure) } (fun u => .mk [(0, .p 0 0), (2, .v (.int .i64 (m : Int))), (4, .p 1 0), (6, .p 2 0), (7, .p 3 0), (9, .v (.int .i64 (k : Int))), (11, .p 4 0), (12, .v (.bool u.1.2.1))] 5 0 [(4, 46, 9), (3, 46, 9), (2, 46, 9), (1, 38, 5), (0, 183, 2)] [((0, 0), .v (bi.val rb.length)), ((0, 1), .v (.int .i64 (u.1.2.2 : Int))), ((1, 0), .v (q.h0.val q.sems.length)), ((1, 1), .v (q.h1.val q.groups.length)), ((1, 2), .v (q.h2.val q.barriers.length)), ((1, 3), .v (q.h3.val q.rooms.length)), ((1, 4), .v (q.h4.val q.threads.length)), ((3, 0), .v (yS.h0.val yS.places.length)), ((3, 1), .v (yS.h1.val yS.status.length)), ((3, 2), .v (yS.h2.val yS.sems.length)), ((3, 3), .v (yS.h3.val yS.onces.length)), ((3, 4), .v (yS.h4.val yS.groups.length)), ((3, 5), .v (yS.h5.val yS.barriers.length)), ((3, 6), .v (yS.h6.val yS.chans.length)), ((3, 7), .v (yS.h7.val yS.said.length)), ((3, 8), .v (.int .i64 yS.fault)), ((4, 0), .v (u.1.1.h0.val u.1.1.places.length)), ((4, 1), .v (u.1.1.h1.val u.1.1.status.length)), ((4, 2), .v (u.1.1.h2.val u.1.1.sems.length)), ((4, 3), .v (u.1.1.h3.val u.1.1.onces.length)), ((4, 4), .v (u.1.1.h4.val u.1.1.groups.length)), ((4, 5), .v (u.1.1.h5.val u.1.1.barriers.length)), ((4, 6), .v (u.1.1.h6.val u.1.1.chans.length)), ((4, 7), .v (u.1.1.h7.val u.1.1.said.length)), ((4, 8), .v (.int .i64 u.1.1.fault))] [fN (aJ u.1.1), fN (aJ yS), slo bi eI 1 rb, fR (bD q)]) ?_ ?_
   · refine aH aA z88 z88 z88 200 [((1, 0), .v (q.h0.val q.sems.length)), ((1, 1), .v (q.h1.val q.groups.length)), ((1, 2), .v (q.h2.val q.barriers.length)), ((1, 3), .v (q.h3.val q.rooms.length)), ((1, 4), .v (q.h4.val q.threads.length)), ((3, 0), .v (yS.h0.val yS.places.length)), ((3, 1), .v (yS.h1.val yS.status.length)), ((3, 2), .v (yS.h2.val yS.sems.length)), ((3, 3), .v (yS.h3.val yS.onces.length)), ((3, 4), .v (yS.h4.val yS.groups.length)), ((3, 5), .v (yS.h5.val yS.barriers.length)), ((3, 6), .v (yS.h6.val yS.chans.length)), ((3, 7), .v (yS.h7.val yS.said.length)), ((3, 8), .v (.int .i64 yS.fault))] [0] [_] z90 z92 ⟨rfl, trivial⟩ rfl ?_
     refine BothW.mk ?_ ?_
     all_goals
       refine gP _ rC rfl rfl rfl rfl ⟨rfl, rfl⟩ rfl rfl rfl (fun A w ga hga hW hblk => (iQ ga bi rb _ _ w hblk ⟨z29, trivial⟩ hb (by omega))) ?_
       rintro v cs L ⟨kk, rfl, hkk, _, rfl, rfl⟩
       have hlt : kk < (dK yS.pure).length := by have := hkk (by omega); omega
       obtain ⟨t, ht⟩ : ∃ t, t = (dK yS.pure)[kk] := ⟨_, rfl⟩
       refine bM (ti := aZ tab) aI aA rfl rfl rfl rfl rfl ⟨rfl, rfl⟩ z31 kk rfl z37 (fun ad => ?_)
       rw [← ht]
       first
       | refine BothW.mk ?_ ?_
       | skip
       all_goals
         refine bV _ cl141 rfl rfl rfl rfl ⟨rfl, rfl⟩ (fun A w hW => wP q yS t w ⟨hW.get 3 rfl (.refl _), hW.get 1 rfl (oG _), trivial⟩ hq hys) ?_
         rintro v L ⟨y3, b2, rfl, s1, s2, s3, rfl⟩
         refine ⟨⟨(y3, b2, p1 + 1), Nat.le_refl _, fun h => by show Reach q.pure (k + 1) y3.pure; rw [s2 h]; exact .step j2 (s1.1 h)⟩, ?_⟩
         exact aC [0, 2, 3, 4] zw2 zw0 zw2 zw5 zw4 rfl rfl
   rintro ⟨⟨y3, b2, p2⟩, s1, s2⟩
   simp only at s1 s2 ⊢
   refine CaseB.mk (fun g2 => ?_) (fun g2 => ?_)
   · exact jE [1] ⟨yS, k, p2, rfl, j2, by omega, rfl, by omega, rfl⟩ rfl rfl z118 rfl ⟨rfl, trivial⟩ (fun _ => rfl)
   have e2 : b2 = true := by simpa using g2
   refine ⟨⟨(k + 1, y3, p2), hkm, s2 e2, by simp only; omega⟩, ?_, by simp only; omega⟩
   exact aC [0, 2, 3] zw1 zw0 zw1 zw5 zw3 rfl rfl
 have hk : k = m := by have := of_decide_eq_false gk; omega
 exact jE [0] ⟨yS, k, p1, rfl, j2, by omega, rfl, by omega, rfl⟩ rfl rfl z118 rfl ⟨rfl, trivial⟩ (fun _ => rfl)
structure Keep (op : Op) (s s1 : State) : Prop where
 pl : s1.places = s.places
 st : s1.status = s.status
 fa : s1.fault = s.fault
 se : s1.sems = s.sems ∨ (op.kind = 2 ∨ op.kind = 3) ∧ ∃ x, s1.sems = s.sems.set op.on.toNat x
 ba : s1.barriers = s.barriers ∨ ∃ x, s1.barriers = s.barriers.set op.on.toNat x ∧ x.round ≤ (gT s op).round + 1
def iU0 (op : Op) (s s1 : State) : Prop := (s1.said = s.said ∧ op.kind ≠ 1) ∨ ∃ v, s1.said = s.said ++ [v] ∧ ((op.kind = 1 ∨ op.kind = 8) ∧ v = op.arg ∨ op.kind = 9)
inductive Stp (p : Prog) (s : State) (k : Nat) (st : Int) (op : Op) : State → Prop where
 | on (s1 : State) (who : List Int) : Keep op s s1 → iU0 op s s1 → who.Nodup → (∀ u ∈ who, aK (bB s) u ≠ []) → Stp p s k st op (onM p (who ++ [(k : Int)]) s1)
 | wait (s1 : State) (b : Int) : Keep op s s1 → s1.said = s.said → op.kind ≠ 1 → (b = 1 ∨ b = 2 ∧ st = 0) → Stp p s k st op (bI s1 k b)
 | fault (f : Int) : f ≠ 0 → op.kind ≠ 1 → Stp p s k st op (kD s f)
theorem fR0 {m : Once} (h : cS m) : m.waits.Nodup := by
 rcases h with h | h | h
 · rw [h.2.2.2]; exact List.nodup_nil
 · exact eX h.2.2.2.1
 · rw [h.2.2.2]; exact List.nodup_nil
theorem Rdy.stp {p : Prog} {s : State} {k : Nat} {ops : List Op} {a st : Int} {op : Op} (r : Rdy p s k ops a st op) (hw : ¬ zI p s k) : Stp p s k st op (doM p s k) := by
 have hst : s.status.getD (k : Int).toNat 0 = st := by rw [Int.toNat_natCast, List.getD_eq_getElem?_getD, r.h3]; rfl
 rw [zI, r.at_] at hw
 rw [doM, r.at_, dG]
 by_cases k1 : op.kind = 1
 · rw [if_pos k1]
   exact .on (kR s op.arg) [] z115 (.inr ⟨_, rfl, .inl ⟨.inl k1, rfl⟩⟩) List.nodup_nil (fun u hu => by cases hu)
 by_cases k2 : op.kind = 2
 · rw [if_neg k1, if_pos k2, kU]
   split
   · exact .on (setSem s op _) [] ⟨rfl, rfl, rfl, .inr ⟨.inl k2, _, rfl⟩, .inl rfl⟩ (.inl ⟨rfl, k1⟩) List.nodup_nil (fun u hu => by cases hu)
   · exact .wait (setSem s op _) 1 ⟨rfl, rfl, rfl, .inr ⟨.inl k2, _, rfl⟩, .inl rfl⟩ rfl k1 (.inl rfl)
 by_cases k3 : op.kind = 3
 · rw [if_neg k1, if_neg k2, if_pos k3, kV]
   obtain ⟨x, hx, hxa, ok, a1, a2, hi⟩ := r.sem (.inr k3)
   rw [hxa, Sem.release]
   by_cases hc : op.arg ≤ x.limit - x.free
   · rw [if_pos hc]
     have f0 := ok.f0
     obtain ⟨n, i1, i2, i3, i4, i5⟩ := sF x.queue (x.free + op.arg) (by omega) (fun w hw => (ok.cnt w hw).1)
     simp only [i1, i2]
     exact Stp.on (p := p) (s := s) (k := k) (st := st) (op := op) (setSem s op ⟨(dZ (x.free + op.arg) x.queue).1, x.limit, x.queue.drop n⟩) ((x.queue.take n).map (·.t)) ⟨rfl, rfl, rfl, .inr ⟨.inr k3, _, rfl⟩, .inl rfl⟩ (.inl ⟨rfl, k1⟩) ((eX ok.dis).sublist ((List.take_sublist _ _).map _)) (fun u hu h0 => bG.1 ((nH hx x).none h0) (((List.take_sublist _ _).map _).subset hu))
   · rw [if_neg hc]
     exact .fault 1 (by decide) k1
 by_cases k4 : op.kind = 4
 · rw [if_neg k1, if_neg k2, if_neg k3, if_pos k4, pE, hst]
   obtain ⟨x, hx, hxa, ok, hv, hi⟩ := r.once k4
   rw [hxa]
   by_cases h2 : st = 2
   · rw [if_pos h2]
     exact .on (setOnce s op (x.finish k op.arg).1) x.waits z115 (.inl ⟨rfl, k1⟩) (fR0 ok) (fun u hu h0 => (bG (g := fun t : Int => t)).1 ((qW hx x).none h0) (by simpa using hu))
   have h0 : st = 0 := by
     rcases r.ow with ⟨e, _⟩ | ⟨e, _⟩
     · exact e
     · exact (h2 e).elim
   rw [if_neg h2]
   split
   · exact .wait (setOnce s op _) 2 z115 rfl k1 (.inr ⟨rfl, h0⟩)
   split
   · exact .wait (setOnce s op _) 1 z115 rfl k1 (.inl rfl)
   · exact .on (setOnce s op _) [] z115 (.inl ⟨rfl, k1⟩) List.nodup_nil (fun u hu => by cases hu)
 by_cases k5 : op.kind = 5
 · rw [if_neg k1, if_neg k2, if_neg k3, if_neg k4, if_pos k5, xV]
   obtain ⟨x, hx, hxa, ⟨ok1, ok2, ok3⟩, ha, hi⟩ := r.group (.inl k5)
   rw [hxa, Group.add]
   by_cases hc : aR (x.count + op.arg) = true
   · rw [if_pos hc]
     by_cases h0 : x.count + op.arg = 0
     · rw [if_pos h0]
       exact .on (setGroup s op ⟨0, []⟩) x.waits z115 (.inl ⟨rfl, k1⟩) (eX ok2) (fun u hu h0 => (bG (g := fun t : Int => t)).1 ((jU hx x).none h0) (by simpa using hu))
     · rw [if_neg h0]
       exact .on (setGroup s op ⟨x.count + op.arg, x.waits⟩) [] z115 (.inl ⟨rfl, k1⟩) List.nodup_nil (fun u hu => by cases hu)
   · rw [if_neg hc]
     exact .fault 2 (by decide) k1
 by_cases k6 : op.kind = 6
 · rw [if_neg k1, if_neg k2, if_neg k3, if_neg k4, if_neg k5, if_pos k6, tC]
   split
   · exact .on (setGroup s op _) [] z115 (.inl ⟨rfl, k1⟩) List.nodup_nil (fun u hu => by cases hu)
   · exact .wait (setGroup s op _) 1 z115 rfl k1 (.inl rfl)
 by_cases k7 : op.kind = 7
 · rw [if_neg k1, if_neg k2, if_neg k3, if_neg k4, if_neg k5, if_neg k6, if_pos k7, iW]
   obtain ⟨x, hx, hxa, ok, hi⟩ := r.barrier k7
   rw [hxa, Barrier.arrive] at hw ⊢
   by_cases hc : (x.waits.length : Int) + 1 < x.parties
   · rw [if_pos hc]
     exact .wait (setBarrier s op ⟨x.parties, x.round, x.waits ++ [(k : Int)]⟩) 1 ⟨rfl, rfl, rfl, .inl rfl, .inr ⟨_, rfl, by rw [hxa]; show x.round ≤ x.round + 1; omega⟩⟩ rfl k1 (.inl rfl)
   rw [if_neg hc] at hw ⊢
   by_cases h9 : x.round = 9999
   · exact (hw ⟨k7, if_pos h9⟩).elim
   rw [if_neg h9]
   have hne : ¬ x.waits ++ [(k : Int)] = [] := by simp
   simp only [if_neg hne]
   exact .on (setBarrier s op ⟨x.parties, x.round + 1, []⟩) x.waits ⟨rfl, rfl, rfl, .inl rfl, .inr ⟨_, rfl, by rw [hxa]; exact Int.le_refl _⟩⟩ (.inl ⟨rfl, k1⟩) (eX ok.2.2.2.2.2) (fun u hu h0 => (bG (g := fun t : Int => t)).1 ((mM hx x).none h0) (by simpa using hu))
 by_cases k8 : op.kind = 8
 · rw [if_neg k1, if_neg k2, if_neg k3, if_neg k4, if_neg k5, if_neg k6, if_neg k7, if_pos k8, nX]
   obtain ⟨x, hx, hxa, hv, hval, hi⟩ := r.chan (by omega)
   rw [hxa]
   by_cases hc : (x.send k op.arg).2.2.2 = true
   · obtain ⟨_, c1, c2, c3, c4⟩ := zF hc
     rw [if_pos hc]
     have hsd : x.send k op.arg = if h : 0 < x.getters.length then ({ x with getters := x.getters.drop 1 }, [x.getters[0]], true, true) else if (x.items.length : Int) < x.room then ({ x with items := x.items ++ [op.arg] }, [], true, true) else ({ x with senders := x.senders ++ [⟨(k : Int), op.arg⟩] }, [], false, true) := by
       rw [Chan.send, if_pos ⟨hv, c1, c2, c3, c4⟩]
     rw [hsd]
     by_cases hg : 0 < x.getters.length
     · simp only [dif_pos hg, if_true]
       rw [if_neg (by simp)]
       exact .on (kR (setChan s op { x with getters := x.getters.drop 1 }) op.arg) [x.getters[0]] z115 (.inr ⟨_, rfl, .inl ⟨.inr k8, rfl⟩⟩) (by simp) (fun u hu h0 => lK ((gJ hx x).none h0) (List.mem_append_right _ (by rw [List.mem_singleton.1 hu]; exact List.getElem_mem hg)))
     · simp only [dif_neg hg]
       by_cases hr : (x.items.length : Int) < x.room
       · simp only [if_pos hr, if_true]
         exact .on (setChan s op { x with items := x.items ++ [op.arg] }) [] z115 (.inl ⟨rfl, k1⟩) List.nodup_nil (fun u hu => by cases hu)
       · simp only [if_neg hr, Bool.false_eq_true, if_false]
         exact .wait (setChan s op _) 1 z115 rfl k1 (.inl rfl)
   · rw [if_neg hc]
     exact .fault 3 (by decide) k1
 by_cases k9 : op.kind = 9
 · rw [if_neg k1, if_neg k2, if_neg k3, if_neg k4, if_neg k5, if_neg k6, if_neg k7, if_neg k8, if_pos k9, uC]
   obtain ⟨x, hx, hxa, hv, hval, hi⟩ := r.chan (by omega)
   rw [hxa]
   have hok : x.Valid ∧ aW (k : Int) = true ∧ ¬ (k : Int) ∈ x.threads := ⟨hv, r.thr, lK ((gJ hx x).none r.ev)⟩
   have hsd : x.get k = if 0 < x.gItems.length then ({ x with items := x.gItems.drop 1, senders := x.senders.drop 1 }, x.gItems.headD 0, 1, x.gWho, true) else if x.closed = true then ({ x with items := [], senders := [] }, 0, 2, [], true) else ({ x with items := [], senders := [], getters := x.getters ++ [(k : Int)] }, 0, 0, [], true) := by
     rw [Chan.get, if_pos hok]
   rw [hsd]
   by_cases hc : 0 < x.gItems.length
   · simp only [if_pos hc]
     rw [if_neg (by decide), if_pos trivial]
     exact .on (kR (setChan s op { x with items := x.gItems.drop 1, senders := x.senders.drop 1 }) (x.gItems.headD 0)) x.gWho z115 (.inr ⟨_, rfl, .inr k9⟩) ((sG hv).1.sublist ((List.take_sublist _ _).map _)) (fun u hu h0 => lK ((gJ hx x).none h0) (List.mem_append_left _ (((List.take_sublist _ _).map _).subset hu)))
   · simp only [if_neg hc]
     by_cases hcl : x.closed = true
     · simp only [if_pos hcl]
       rw [if_neg (by decide), if_neg (by decide)]
       exact .on (setChan s op { x with items := [], senders := [] }) [] z115 (.inl ⟨rfl, k1⟩) List.nodup_nil (fun u hu => by cases hu)
     · simp only [if_neg hcl]
       rw [if_pos trivial]
       exact .wait (setChan s op _) 1 z115 rfl k1 (.inl rfl)
 rw [if_neg k1, if_neg k2, if_neg k3, if_neg k4, if_neg k5, if_neg k6, if_neg k7, if_neg k8, if_neg k9, pW]
 have h10 := r.ok.2.1
 have h11 := r.ok.1
 obtain ⟨x, hx, hxa, hv, hval, hi⟩ := r.chan (by omega)
 rw [hxa]
 by_cases hc : x.close.2.2 = true
 · obtain ⟨_, c1, c2⟩ := wC hc
   rw [if_pos hc]
   have hsd : x.close = ({ x with senders := [], getters := [], closed := true }, x.getters, true) := by
     rw [Chan.close, if_pos ⟨hv, c1, c2⟩]
   rw [hsd]
   exact .on (setChan s op { x with senders := [], getters := [], closed := true }) x.getters z115 (.inl ⟨rfl, k1⟩) (sG hv).2 (fun u hu h0 => lK ((gJ hx x).none h0) (List.mem_append_right _ hu))
 · rw [if_neg hc]
   exact .fault 4 (by decide) k1
theorem Rdy.who {p : Prog} {s : State} {k : Nat} {ops : List Op} {a st : Int} {op : Op} (r : Rdy p s k ops a st op) {who : List Int} (nd : who.Nodup) (hw : ∀ u ∈ who, aK (bB s) u ≠ []) : (who ++ [(k : Int)]).Nodup ∧ ∀ x ∈ who ++ [(k : Int)], 0 ≤ x := by
 refine ⟨?_, fun x hx => ?_⟩
 · rw [List.nodup_append]
   exact ⟨nd, by simp, fun x hx y hy => by simp at hy; subst hy; rintro rfl; exact hw _ hx r.ev⟩
 · rcases List.mem_append.1 hx with hx | hx
   · exact (r.ft.isIn (hw x hx)).1
   · simp at hx; omega
theorem Stp.said {p : Prog} {s : State} {k : Nat} {st : Int} {op : Op} {s' : State} (h : Stp p s k st op s') : iU0 op s s' := by
 cases h with
 | on s1 who hK hs nd hw =>
   rw [iU0, sE]
   exact hs
 | wait s1 b hK hs h1 hb => exact .inl ⟨hs, h1⟩
 | fault f hf h1 => exact .inl ⟨rfl, h1⟩
theorem Stp.sems {p : Prog} {s : State} {k : Nat} {st : Int} {op : Op} {s' : State} (h : Stp p s k st op s') : s'.sems = s.sems ∨ (op.kind = 2 ∨ op.kind = 3) ∧ ∃ x, s'.sems = s.sems.set op.on.toNat x := by
 cases h with
 | on s1 who hK hs nd hw =>
   obtain ⟨pl, st', hE, _, _⟩ := nF p (who ++ [(k : Int)]) s1
   rw [hE]
   exact hK.se
 | wait s1 b hK hs h1 hb => exact hK.se
 | fault f hf h1 => exact .inl rfl
theorem Stp.bars {p : Prog} {s : State} {k : Nat} {st : Int} {op : Op} {s' : State} (h : Stp p s k st op s') : s'.barriers = s.barriers ∨ ∃ x, s'.barriers = s.barriers.set op.on.toNat x ∧ x.round ≤ (gT s op).round + 1 := by
 cases h with
 | on s1 who hK hs nd hw =>
   obtain ⟨pl, st', hE, _, _⟩ := nF p (who ++ [(k : Int)]) s1
   rw [hE]
   exact hK.ba
 | wait s1 b hK hs h1 hb => exact hK.ba
 | fault f hf h1 => exact .inl rfl
theorem StepOk.rdy {p : Prog} {s : State} {t : Int} (h : StepOk p s t) : ∃ (k : Nat) (ops : List Op) (a st : Int) (op : Op), t = k ∧ Rdy p s k ops a st op ∧ Stp p s k st op (doM p s t) := by
 obtain ⟨h1, h2, h3, h4⟩ := cU0.1 h
 obtain ⟨k, ops, a, st, op, rfl, r⟩ := Go.Proofs.YtchkcjeeknfchaaGreatDoor.rdy h1 h2
 exact ⟨k, ops, a, st, op, rfl, r, r.stp h4⟩
def Rounds (s : State) (B : Int) : Prop := ∀ x ∈ s.barriers, x.round ≤ B
theorem Rounds.step {p : Prog} {s : State} {t B : Int} (h : StepOk p s t) (hB : 0 ≤ B) (hr : Rounds s B) : Rounds (doM p s t) (B + 1) := by
 obtain ⟨k, ops, a, st, op, rfl, r, hs⟩ := h.rdy
 intro x hx
 rcases hs.bars with e | ⟨y, e, hy⟩
 · rw [e] at hx
   have := hr x hx
   omega
 · rw [e] at hx
   rcases List.mem_or_eq_of_mem_set hx with hx | rfl
   · have := hr x hx
     omega
   · have hb : (gT s op).round ≤ B := by
       rw [gT, List.getD_eq_getElem?_getD]
       cases hc : s.barriers[op.on.toNat]? with
       | none => exact hB
       | some z => exact hr z (List.mem_of_getElem? hc)
     omega
def EntW (v : Value) (L : List Fct) : Prop := ∃ (m : Once) (y : Sl) (u : Int) (b : Bool), v = .tuple #[lV m y, .int .i64 u, .bool b] ∧ (b = true → cS m) ∧ L = [own y 3 aL 1 m.waits]
def FinW (v : Value) (L : List Fct) : Prop := ∃ (m : Once) (y z : Sl) (xs : List Int) (b : Bool), v = .tuple #[lV m y, z.val xs.length, .bool b] ∧ (b = true → cS m) ∧ L = [own y 3 aL 1 m.waits, own z 3 aL 1 xs]
theorem iV0 (m : Once) (q : Sl) (t : Int) (w : World) (h : At w [slo q aL 1 m.waits]) (ok : cS m) (ht : aW t = true) :
   Calls Tryz.prog 145 #[lV m q, .int .i64 t] w (Ret w EntW) := by
 have hb := eD ok
 refine cN Tryz.func145 rfl aA w _ rfl _ rfl _ h ⟨rfl, rfl, trivial⟩ _ _ (by decide) ?_
 refine aB _ jK0 rfl rfl rfl rfl ⟨rfl, rfl⟩ (fun A w hW => kN m q w ⟨z30, trivial⟩ (by omega)) ?_
 rintro v L ⟨b, rfl, hbb, rfl⟩
 obtain rfl : b = true := hbb.2 ok
 refine CaseB.mk (fun g => by simp at g) (fun _ => ?_)
 refine aB _ oS rfl rfl rfl rfl ⟨rfl, rfl⟩ (fun A w hW => eC _ w) ?_
 rintro v L ⟨rfl, rfl⟩
 refine CaseB.mk (fun g => by rw [ht] at g; simp at g) (fun _ => ?_)
 refine aB _ gK0 rfl rfl rfl rfl ⟨rfl, rfl⟩ (fun A w hW => wK m q w ⟨z30, trivial⟩ (by omega)) ?_
 rintro v L ⟨y, rfl, rfl⟩
 apply CaseB.mk <;> intro g
 · exact bY [99] ⟨⟨1, t, 0, []⟩, nI, 0, true, rfl, fun _ => (jI rfl).2 ⟨ht, rfl, show aS [] = true by decide, by simp⟩, rfl⟩ z104 rfl ⟨rfl, trivial⟩ (fun _ => rfl)
 have e0 : ¬ m.state = 0 := by simpa using g
 apply CaseB.mk <;> intro g
 · exact bY [0] ⟨m, y, 2, true, rfl, fun _ => ok, rfl⟩ z118 rfl ⟨rfl, trivial⟩ (fun _ => rfl)
 have e2 : ¬ m.state = 2 := by simpa using g
 have e1 : m.state = 1 := by
   rcases ok with h | h | h
   · exact (e0 h.1).elim
   · exact h.1
   · exact (e2 h.1).elim
 have o1 := (jI e1).1 ok
 apply CaseB.mk <;> intro g
 · exact bY [99] ⟨⟨0, 0, 0, []⟩, nI, 0, false, rfl, fun h => z89, rfl⟩ z104 rfl ⟨rfl, trivial⟩ (fun _ => rfl)
 have hno : ¬ t = m.owner := by simpa using g
 refine aB _ lO rfl rfl rfl rfl ⟨rfl, rfl⟩ (fun A w hW => iT q m.waits t w ⟨z30, trivial⟩ (by omega)) ?_
 rintro v L ⟨rfl, rfl⟩
 apply CaseB.mk <;> intro g
 · exact bY [99] ⟨⟨0, 0, 0, []⟩, nI, 0, false, rfl, fun h => z89, rfl⟩ z104 rfl ⟨rfl, trivial⟩ (fun _ => rfl)
 have hn : t ∉ m.waits := fun hm => by have := (dU _ _).2 hm; have g' := of_decide_eq_false g; omega
 refine AllSl.mk fun z => ?_
 refine cB aI aA (ys := [t]) rfl rfl rfl rfl rfl rfl rfl rfl rfl (by decide) ⟨rfl, rfl⟩ z35 z31 z37 z37 (fun y2 => ?_)
 exact bY [0] ⟨{ m with waits := m.waits ++ [t] }, y2, 1, true, rfl, fun _ => (jI (m := { m with waits := m.waits ++ [t] }) e1).2 ⟨o1.1, o1.2.1, fD o1.2.2.1 ht hn, fun hm => (List.mem_append.1 hm).elim o1.2.2.2 (fun hm => hno (List.mem_singleton.1 hm).symm)⟩, rfl⟩ z118 rfl ⟨rfl, trivial⟩ (fun _ => rfl)
theorem fS0 (m : Once) (q : Sl) (t u : Int) (w : World) (h : At w [slo q aL 1 m.waits]) (ok : cS m) (hv : aR u = true) :
   Calls Tryz.prog 146 #[lV m q, .int .i64 t, .int .i64 u] w (Ret w FinW) := by
 have hb := eD ok
 refine mF Tryz.func146 rfl aA w _ rfl _ rfl _ h ⟨rfl, rfl, trivial⟩ _ _ _ (by decide) ?_
 refine aB _ lY0 rfl rfl rfl rfl ⟨rfl, rfl⟩ (fun A w hW => cH0 m q t w ⟨z30, trivial⟩ (by omega)) ?_
 rintro v L ⟨b, rfl, hbb, rfl⟩
 apply CaseB.mk <;> intro g
 · refine AllSl.mk fun z => ?_
   exact bY [99, 0] ⟨⟨0, 0, 0, []⟩, nI, z, [], false, rfl, fun h => z89, rfl⟩ z101 rfl ⟨rfl, rfl, trivial⟩ (fun _ => rfl)
 obtain ⟨_, h1, ho⟩ := hbb.1 z85
 have o1 := (jI h1).1 ok
 refine aB _ uE rfl rfl rfl rfl ⟨rfl, rfl⟩ (fun A w hW => eM _ w) ?_
 rintro v L ⟨rfl, rfl⟩
 refine CaseB.mk (fun g => by simp [hv] at g) (fun _ => ?_)
 refine AllSl.mk fun z => ?_
 refine cB aI aA (xs := []) rfl rfl rfl rfl rfl rfl rfl rfl rfl (by decide) ⟨rfl, rfl⟩ z35 z31 z37 z37 (fun y => ?_)
 exact bY [99, 0] ⟨⟨2, t, u, []⟩, nI, y, m.waits, true, rfl, fun _ => (uL rfl).2 ⟨by rw [← ho]; exact o1.1, hv, rfl⟩, rfl⟩ z101 rfl ⟨rfl, rfl, trivial⟩ (fun _ => rfl)
theorem cY0 (g : Nat) (bi : Sl) (rb : List UInt8) (p : Nat) (w : World) (hg : Blk w g 183 (kA bi rb p)) (h : AtP w g [slo bi eI 1 rb]) (hb : rb.length ≤ 2000) (hp : p < 1000000) :
   Calls Tryz.prog 114 #[.pointer (some ⟨g, 0, none⟩)] w (uG w g 183 2 fun v cs L => ∃ (m : Once) (q : Sl) (p2 : Nat), v = lV m q ∧ cS m ∧ cs = kA bi rb p2 ∧ p2 ≤ p + 10 ∧ L = [own q 3 aL 1 m.waits]) := by
 refine yL Tryz.func114 rfl aA w _ rfl _ rfl _ 183 _ 2 rfl hg _ h ⟨rfl, rfl, trivial⟩ (by decide) ?_
 refine AllSl.mk fun l1 => ?_
 refine bH _ nL rfl rfl rfl rfl ⟨rfl, rfl⟩ rfl rfl (fun A w ga hga hW hblk => (iR ga bi rb _ _ [2, 1, 3, 4, 0] w hblk ⟨z29, z29, trivial⟩ hb (by omega) (by decide))) ?_
 rintro v cs L ⟨x0, rfl, hx0, rfl, rfl⟩
 have hx4 : 0 ≤ x0 ∧ x0 ≤ 4 := by simp at hx0; omega
 clear hx0
 refine LoopW.mk ⟨{ u : Int × Once × Sl × Nat // (0 ≤ u.1 ∧ u.1 ≤ 4) ∧ u.2.2.2 + u.1 ≤ (p : Int) + 5 ∧ cS u.2.1 },
   fun u => .mk [(0, .p 0 0), (2, .p 1 0), (3, .p 2 0), (4, .v (.int .i64 u.1.1))] 3 0 [(2, 98, 4), (1, 98, 4), (0, 183, 2)] [((0, 0), .v (bi.val rb.length)), ((0, 1), .v (.int .i64 (u.1.2.2.2 : Int))), ((2, 0), .v (.int .i64 u.1.2.1.state)), ((2, 1), .v (.int .i64 u.1.2.1.owner)), ((2, 2), .v (.int .i64 u.1.2.1.value)), ((2, 3), .v (u.1.2.2.1.val u.1.2.1.waits.length))] [own u.1.2.2.1 3 aL 1 u.1.2.1.waits, slo bi eI 1 rb],
   fun u => u.1.1.toNat, ⟨(x0, ⟨0, 0, 0, []⟩, nI, p + 1), hx4, by simp only; omega, (uK rfl).2 ⟨rfl, rfl, rfl⟩⟩, ?_, ?_⟩
 · exact aC [99, 1] zw2 zw0 zw2 zw5 zw4 rfl rfl
 rintro ⟨⟨i, m, q, p1⟩, i1, i2, i3⟩
 simp only at i1 i2 i3 ⊢
 refine CaseB.mk (fun gi => ?_) (fun gi => ?_)
 · have hi : 0 < i := by have := of_decide_eq_true gi; omega
   have hwi : IntKind.i64.wrap (i - 1) = i - 1 := by rw [cE] <;> omega
   refine mW { u : Once × Sl × Int × Bool // u.2.2.2 = true → cS u.1 } (fun u => .mk [(0, .p 0 0), (2, .p 1 0), (3, .p 2 0), (4, .v (.int .i64 i)), (5, .p 3 0), (7, .v (.bool u.1.2.2.2))] 4 0 [(3, 98, 4), (2, 98, 4), (1, 98, 4), (0, 183, 2)] [((0, 0), .v (bi.val rb.length)), ((0, 1), .v (.int .i64 ((p1 + 1 : Nat) : Int))), ((2, 0), .v (.int .i64 m.state)), ((2, 1), .v (.int .i64 m.owner)), ((2, 2), .v (.int .i64 m.value)), ((2, 3), .v (q.val m.waits.length)), ((3, 0), .v (.int .i64 u.1.1.state)), ((3, 1), .v (.int .i64 u.1.1.owner)), ((3, 2), .v (.int .i64 u.1.1.value)), ((3, 3), .v (u.1.2.1.val u.1.1.waits.length))] [own u.1.2.1 3 aL 1 u.1.1.waits, own q 3 aL 1 m.waits, slo bi eI 1 rb]) ?_ ?_
   · refine aH aA z88 z88 z88 200 [((2, 0), .v (.int .i64 m.state)), ((2, 1), .v (.int .i64 m.owner)), ((2, 2), .v (.int .i64 m.value)), ((2, 3), .v (q.val m.waits.length))] [] [] z98 z110 trivial rfl ?_
     refine BothW.mk ?_ ?_
     all_goals
       refine gP _ rC rfl rfl rfl rfl ⟨rfl, rfl⟩ rfl rfl rfl (fun A w ga hga hW hblk => (iQ ga bi rb _ _ w hblk ⟨z29, trivial⟩ hb (by omega))) ?_
       rintro v cs L ⟨t, rfl, ht, _, rfl, rfl⟩
       have ht6 := ht (by decide)
       first
       | refine BothW.mk ?_ ?_
       | skip
       all_goals
         refine bV _ kS0 rfl rfl rfl rfl ⟨rfl, rfl⟩ (fun A w hW => iV0 m q t w ⟨hW.get 0 rfl (.own), trivial⟩ i3 (by simp [aW]; omega)) ?_
         rintro v L ⟨m2, q2, u2, b2, rfl, hm2, rfl⟩
         refine ⟨⟨(m2, q2, u2, b2), hm2⟩, ?_⟩
         exact aC [0, 1, 2] zw2 zw0 zw2 zw5 zw4 rfl rfl
   rintro ⟨⟨m2, q2, u2, b2⟩, hm2⟩
   simp only at hm2 ⊢
   refine CaseB.mk (fun g2 => ?_) (fun g2 => ?_)
   · refine ⟨⟨(i - 1, m2, q2, p1 + 1), by simp only; omega, by simp only; omega, hm2 z82⟩, ?_, by simp only; omega⟩
     exact aC [0, 2] zw9 zw0 zw9 zw5 zw22 rfl rfl
   · refine ⟨⟨(i - 1, m, q, p1 + 1), by simp only; omega, by simp only; omega, i3⟩, ?_, by simp only; omega⟩
     exact aC [1, 2] zw9 zw0 zw9 zw5 zw22 rfl rfl
 have hi : i = 0 := by have := of_decide_eq_false gi; omega
 refine bH _ rC rfl rfl rfl rfl ⟨rfl, rfl⟩ rfl rfl (fun A w ga hga hW hblk => (iQ ga bi rb _ _ w hblk ⟨z29, trivial⟩ hb (by omega))) ?_
 rintro v cs L ⟨k, rfl, _, _, rfl, rfl⟩
 refine CaseB.mk (fun gk => ?_) (fun gk => ?_)
 · refine mW { u : Once × Sl × Bool // u.2.2 = true → cS u.1 } (fun u => .mk [(2, .p 1 0), (3, .p 2 0), (8, .p 3 0), (10, .v (.bool u.1.2.2))] 4 0 [(3, 98, 4), (2, 98, 4), (1, 98, 4), (0, 183, 2)] [((0, 0), .v (bi.val rb.length)), ((0, 1), .v (.int .i64 ((p1 + 1 + 1 : Nat) : Int))), ((2, 0), .v (.int .i64 m.state)), ((2, 1), .v (.int .i64 m.owner)), ((2, 2), .v (.int .i64 m.value)), ((2, 3), .v (q.val m.waits.length)), ((3, 0), .v (.int .i64 u.1.1.state)), ((3, 1), .v (.int .i64 u.1.1.owner)), ((3, 2), .v (.int .i64 u.1.1.value)), ((3, 3), .v (u.1.2.1.val u.1.1.waits.length))] [own u.1.2.1 3 aL 1 u.1.1.waits, own q 3 aL 1 m.waits, slo bi eI 1 rb]) ?_ ?_
   · refine aH aA z88 z88 z88 200 [((2, 0), .v (.int .i64 m.state)), ((2, 1), .v (.int .i64 m.owner)), ((2, 2), .v (.int .i64 m.value)), ((2, 3), .v (q.val m.waits.length))] [] [] z98 z110 trivial rfl ?_
     refine BothW.mk ?_ ?_
     all_goals
       refine AllSl.mk fun l2 => ?_
       first
       | refine BothW.mk ?_ ?_
       | skip
       all_goals
         refine gP _ nL rfl rfl rfl rfl ⟨rfl, rfl⟩ rfl rfl rfl (fun A w ga hga hW hblk => (iR ga bi rb _ _ [7, 0, 99] w hblk ⟨z29, z29, trivial⟩ hb (by omega) (by decide))) ?_
         rintro v cs L ⟨x, rfl, hx, rfl, rfl⟩
         have hxv : aR x = true := by simp at hx; rcases hx with rfl | rfl | rfl <;> rfl
         first
         | refine BothW.mk ?_ ?_
         | skip
         all_goals
           refine bV _ kT0 rfl rfl rfl rfl ⟨rfl, rfl⟩ (fun A w hW => fS0 m q _ x w ⟨hW.get 1 rfl (.own), trivial⟩ i3 hxv) ?_
           rintro v L ⟨m2, q2, z2, xs2, b2, rfl, hm2, rfl⟩
           refine ⟨⟨(m2, q2, b2), hm2⟩, ?_⟩
           exact aC [0, 3, 4] zw2 zw0 zw2 zw5 zw4 rfl rfl
   rintro ⟨⟨m2, q2, b2⟩, hm2⟩
   simp only at hm2 ⊢
   refine CaseB.mk (fun g2 => ?_) (fun g2 => ?_)
   · exact jE [0] ⟨m2, q2, _, rfl, hm2 z82, rfl, by omega, rfl⟩ rfl rfl z118 rfl ⟨rfl, trivial⟩ (fun _ => rfl)
   · exact jE [1] ⟨m, q, _, rfl, i3, rfl, by omega, rfl⟩ rfl rfl z118 rfl ⟨rfl, trivial⟩ (fun _ => rfl)
 exact jE [0] ⟨m, q, _, rfl, i3, rfl, by omega, rfl⟩ rfl rfl z118 rfl ⟨rfl, trivial⟩ (fun _ => rfl)
structure Near (n : Nat) (s : State) : Prop where
 sm : s.small20
 pl : 1 ≤ s.places.length
 st : 1 ≤ s.status.length
 on : s.onces.length = 3
 sa : s.said.length ≤ 64 + n
 ba : Rounds s 2000
theorem Reach.rounds {p : Prog} {n : Nat} {s : State} (h : Reach p n s) : Rounds s n := by
 induction h with
 | begin =>
   intro x hx
   obtain ⟨n, _, rfl⟩ := List.mem_map.1 hx
   exact Int.le_refl _
 | step _ h ih =>
   intro x hx
   have := Rounds.step h (by omega) ih x hx
   omega
theorem Reach.near {p : Prog} (ok : ProgOk p) {n : Nat} {s : State} (h : Reach p n s) (hn : n ≤ 2000) : Near 0 s := by
 have hr : Rounds s 2000 := fun x hx => by have := h.rounds x hx; omega
 have n1 := ok.n1
 have sm := h.small ok
 cases h with
 | begin => exact ⟨sm, by simp [start]; omega, by simp [start]; omega, rfl, by simp [start], hr⟩
 | step _ h =>
   have ft := h.2.2.2
   exact ⟨sm, by rw [ft.np]; omega, by rw [ft.ns]; omega, ft.lonces, ft.lsaid, hr⟩
theorem wM (g : Nat) (bi : Sl) (rb : List UInt8) (p : Nat) (s : StateH) (n : Nat) (w : World) (hg : Blk w g 183 (kA bi rb p)) (h : AtP w g [slo bi eI 1 rb, fR (aJ s)]) (hb : rb.length ≤ 2000) (hp : p < 100000) (nr : Near n s.pure) (hn : n ≤ 10) :
   Calls Tryz.prog 82 #[.pointer (some ⟨g, 0, none⟩), aM s] w (uG w g 183 2 fun v cs L => ∃ (y : StateH) (p2 : Nat), v = aM y ∧ Near (n + 1) y.pure ∧ cs = kA bi rb p2 ∧ p2 ≤ p + 20 ∧ L = [fN (aJ y)]) := by
 refine rE Tryz.func82 rfl aA w _ rfl _ rfl _ 183 _ 2 rfl hg _ h ⟨rfl, rfl, rfl, rfl, trivial⟩ _ (by decide) ?_
 refine aB _ kQ0 rfl rfl rfl rfl ⟨rfl, rfl⟩ (fun A w hW => bC0 s w ⟨hW.get 1 rfl (.refl _), trivial⟩ nr.sm) ?_
 rintro v L ⟨y, rfl, hy, rfl⟩
 rw [← hy] at nr
 have hpl : 0 < y.places.length := nr.pl
 have hst : 0 < y.status.length := nr.st
 have hon : y.onces.length = 3 := by have := nr.on; simpa [StateH.pure] using this
 have hsa : y.said.length ≤ 64 + n := nr.sa
 obtain ⟨b0, b1, b2, b3, b4, b5, b6, b7⟩ := nr.sm
 refine bH _ rC rfl rfl rfl rfl ⟨rfl, rfl⟩ rfl rfl (fun A w ga hga hW hblk => (iQ ga bi rb _ _ w hblk ⟨z29, trivial⟩ hb (by omega))) ?_
 rintro v cs L ⟨k, rfl, _, _, rfl, rfl⟩
 refine CaseB.mk (fun g0 => ?_) (fun g0 => ?_)
 · refine AllSl.mk fun l => ?_
   refine bH _ nL rfl rfl rfl rfl ⟨rfl, rfl⟩ rfl rfl (fun A w ga hga hW hblk => (iR ga bi rb _ _ [5, -1, 1] w hblk ⟨z29, z29, trivial⟩ hb (by omega) (by decide))) ?_
   rintro v cs L ⟨x, rfl, _, rfl, rfl⟩
   obtain ⟨y9, hy9⟩ : ∃ y9 : StateH, y9 = ⟨y.places, y.status, y.sems, y.onces, y.groups, y.barriers, y.chans, y.said, x, y.h0, y.h1, y.h2, y.h3, y.h4, y.h5, y.h6, y.h7⟩ := ⟨_, rfl⟩
   have hv : aM y9 = .agg #[y.h0.val y.places.length, y.h1.val y.status.length, y.h2.val y.sems.length, y.h3.val y.onces.length, y.h4.val y.groups.length, y.h5.val y.barriers.length, y.h6.val y.chans.length, y.h7.val y.said.length, .int .i64 x] := by
     rw [hy9]; simp only [aM]
   have hN : Near (n + 1) y9.pure := by
     rw [hy9]
     exact ⟨⟨b0, b1, b2, b3, b4, b5, b6, b7⟩, nr.pl, nr.st, nr.on, Nat.le_succ_of_le nr.sa, nr.ba⟩
   refine aU (Shift.pack (G := aJ y9) (fun g hg => jV 1 rfl (by rw [hy9] at hg; exact hg))) ?_
   exact jE [0] ⟨y9, _, hv.symm, hN, rfl, by omega, rfl⟩ rfl rfl z118 rfl ⟨rfl, trivial⟩ (fun _ => rfl)
 refine CaseB.mk (fun g1 => ?_) (fun g1 => ?_)
 · refine jF (Shift.splitO 0 (L := mN y) (G := aJ y) (G' := fH y) rfl (iI y)) ?_
   refine nA 0 rfl hpl fun gg hgg _ _ => ?_
   refine aH aA z88 z88 z88 200 [((3, 0), .v (y.h0.val y.places.length))] [] [] z117 z120 trivial rfl ?_
   refine AllSl.mk fun l => ?_
   refine gP _ nL rfl rfl rfl rfl ⟨rfl, rfl⟩ rfl rfl rfl (fun A w ga hga hW hblk => (iR ga bi rb _ _ [0, 1, 9, -1] w hblk ⟨z29, z29, trivial⟩ hb (by omega) (by decide))) ?_
   rintro v cs L ⟨x, rfl, _, rfl, rfl⟩
   refine mI (ti := aZ tab) aA rfl rfl rfl rfl rfl ⟨rfl, rfl⟩ hgg 0 rfl hpl ?_
   refine nB (ti := aZ tab) aI 1 aA rfl rfl rfl rfl rfl rfl rfl rfl hgg 0 0 x rfl hpl rfl [.int .i64 x] (fun _ => rfl) rfl z86 ?_
   obtain ⟨y9, hy9⟩ : ∃ y9 : StateH, y9 = ⟨(y.places.set 0 x), y.status, y.sems, y.onces, y.groups, y.barriers, y.chans, y.said, y.fault, y.h0, y.h1, y.h2, y.h3, y.h4, y.h5, y.h6, y.h7⟩ := ⟨_, rfl⟩
   have hv : aM y9 = .agg #[y.h0.val y.places.length, y.h1.val y.status.length, y.h2.val y.sems.length, y.h3.val y.onces.length, y.h4.val y.groups.length, y.h5.val y.barriers.length, y.h6.val y.chans.length, y.h7.val y.said.length, .int .i64 y.fault] := by
     rw [hy9]; simp only [aM, List.length_set]
   have hN : Near (n + 1) y9.pure := by
     rw [hy9]
     exact ⟨⟨by show (y.places.set 0 x).length ≤ 1048576; rw [List.length_set]; exact b0, b1, b2, b3, b4, b5, b6, b7⟩, by show 1 ≤ (y.places.set 0 x).length; rw [List.length_set]; exact hpl, nr.st, nr.on, Nat.le_succ_of_le nr.sa, nr.ba⟩
   refine aU (Shift.pack (G := aJ y9) (dC y9 (by rw [hy9]; exact gK 0 2 3 4 5 6 7 8 rfl rfl rfl rfl rfl rfl rfl rfl) z70)) ?_
   exact jE [0] ⟨y9, _, hv.symm, hN, rfl, by omega, rfl⟩ rfl rfl z118 rfl ⟨rfl, trivial⟩ (fun _ => rfl)
 refine CaseB.mk (fun g2 => ?_) (fun g2 => ?_)
 · refine jF (Shift.splitO 0 (L := mN y) (G := aJ y) (G' := fH y) rfl (iI y)) ?_
   refine nA 1 rfl hst fun gg hgg _ _ => ?_
   refine aH aA z88 z88 z88 200 [((3, 1), .v (y.h1.val y.status.length))] [] [] z117 z120 trivial rfl ?_
   refine AllSl.mk fun l => ?_
   refine gP _ nL rfl rfl rfl rfl ⟨rfl, rfl⟩ rfl rfl rfl (fun A w ga hga hW hblk => (iR ga bi rb _ _ [0, 1, 2, 3, 4] w hblk ⟨z29, z29, trivial⟩ hb (by omega) (by decide))) ?_
   rintro v cs L ⟨x, rfl, _, rfl, rfl⟩
   refine mI (ti := aZ tab) aA rfl rfl rfl rfl rfl ⟨rfl, rfl⟩ hgg 0 rfl hst ?_
   refine nB (ti := aZ tab) aI 2 aA rfl rfl rfl rfl rfl rfl rfl rfl hgg 0 0 x rfl hst rfl [.int .i64 x] (fun _ => rfl) rfl z86 ?_
   obtain ⟨y9, hy9⟩ : ∃ y9 : StateH, y9 = ⟨y.places, (y.status.set 0 x), y.sems, y.onces, y.groups, y.barriers, y.chans, y.said, y.fault, y.h0, y.h1, y.h2, y.h3, y.h4, y.h5, y.h6, y.h7⟩ := ⟨_, rfl⟩
   have hv : aM y9 = .agg #[y.h0.val y.places.length, y.h1.val y.status.length, y.h2.val y.sems.length, y.h3.val y.onces.length, y.h4.val y.groups.length, y.h5.val y.barriers.length, y.h6.val y.chans.length, y.h7.val y.said.length, .int .i64 y.fault] := by
     rw [hy9]; simp only [aM, List.length_set]
   have hN : Near (n + 1) y9.pure := by
     rw [hy9]
     exact ⟨⟨b0, by show (y.status.set 0 x).length ≤ 1048576; rw [List.length_set]; exact b1, b2, b3, b4, b5, b6, b7⟩, nr.pl, by show 1 ≤ (y.status.set 0 x).length; rw [List.length_set]; exact hst, nr.on, Nat.le_succ_of_le nr.sa, nr.ba⟩
   refine aU (Shift.pack (G := aJ y9) (dC y9 (by rw [hy9]; exact gK 2 0 3 4 5 6 7 8 rfl rfl rfl rfl rfl rfl rfl rfl) z70)) ?_
   exact jE [0] ⟨y9, _, hv.symm, hN, rfl, by omega, rfl⟩ rfl rfl z118 rfl ⟨rfl, trivial⟩ (fun _ => rfl)
 refine CaseB.mk (fun g3 => ?_) (fun g3 => ?_)
 · refine jF (Shift.splitO 0 (L := mN y) (G := aJ y) (G' := fH y) rfl (iI y)) ?_
   refine aH aA z88 z88 z88 200 [] [] [] trivial trivial trivial rfl ?_
   refine BothW.mk ?_ ?_
   all_goals
     refine AllSl.mk fun l => ?_
     first
     | refine BothW.mk ?_ ?_
     | skip
     all_goals
       refine gP _ nL rfl rfl rfl rfl ⟨rfl, rfl⟩ rfl rfl rfl (fun A w ga hga hW hblk => (iR ga bi rb _ _ [100, 3] w hblk ⟨z29, z29, trivial⟩ hb (by omega) (by decide))) ?_
       rintro v cs L ⟨x, rfl, _, rfl, rfl⟩
       first
       | refine BothW.mk ?_ ?_
       | skip
       all_goals
         refine AllSl.mk fun l2 => ?_
         refine dB (ti := aZ tab) aI 9 aA (xs := y.said) (ys := [x]) rfl rfl rfl rfl rfl rfl rfl rfl rfl (by decide) ⟨rfl, rfl⟩ rfl z31 z37 z37 z86 (fun z => ?_)
         obtain ⟨y9, hy9⟩ : ∃ y9 : StateH, y9 = ⟨y.places, y.status, y.sems, y.onces, y.groups, y.barriers, y.chans, (y.said ++ [x]), y.fault, y.h0, y.h1, y.h2, y.h3, y.h4, y.h5, y.h6, z⟩ := ⟨_, rfl⟩
         have hv : aM y9 = .agg #[y.h0.val y.places.length, y.h1.val y.status.length, y.h2.val y.sems.length, y.h3.val y.onces.length, y.h4.val y.groups.length, y.h5.val y.barriers.length, y.h6.val y.chans.length, z.val (y.said ++ [x]).length, .int .i64 y.fault] := by
           rw [hy9]; simp only [aM]
         have hN : Near (n + 1) y9.pure := by
           rw [hy9]
           exact ⟨⟨b0, b1, b2, b3, b4, b5, b6, by show (y.said ++ [x]).length ≤ 1048576; rw [List.length_append, List.length_singleton]; omega⟩, nr.pl, nr.st, nr.on, by show (y.said ++ [x]).length ≤ _; rw [List.length_append, List.length_singleton]; omega, nr.ba⟩
         refine aU (Shift.pack (G := aJ y9) (dC y9 (by rw [hy9]; exact gK 3 4 5 6 7 8 9 0 rfl rfl rfl rfl rfl rfl rfl rfl) (by rw [hy9]; exact fun g hg => jV 10 rfl hg))) ?_
         exact jE [0] ⟨y9, _, hv.symm, hN, rfl, by omega, rfl⟩ rfl rfl z118 rfl ⟨rfl, trivial⟩ (fun _ => rfl)
 refine CaseB.mk (fun g4 => ?_) (fun g4 => ?_)
 · refine jF (Shift.splitO 0 (L := mN y) (G := aJ y) (G' := fH y) rfl (iI y)) ?_
   refine nA 3 rfl (show 0 < y.onces.length by omega) fun gg hgg _ _ => ?_
   refine aH aA z88 z88 z88 200 [((3, 3), .v (y.h3.val y.onces.length))] [] [] z117 z120 trivial rfl ?_
   refine gP _ rC rfl rfl rfl rfl ⟨rfl, rfl⟩ rfl rfl rfl (fun A w ga hga hW hblk => (iQ ga bi rb _ _ w hblk ⟨z29, trivial⟩ hb (by omega))) ?_
   rintro v cs L ⟨j, rfl, hj, _, rfl, rfl⟩
   have hj3 : j < y.onces.length := by have := hj (by decide); omega
   refine gP _ cl114 rfl rfl rfl rfl ⟨rfl, rfl⟩ rfl rfl rfl (fun A w ga hga hW hblk => (cY0 ga bi rb _ w hblk ⟨z29, trivial⟩ hb (by omega))) ?_
   rintro v cs L ⟨m, q, p2, rfl, hm, rfl, hp2, rfl⟩
   refine mI (ti := aZ tab) aA rfl rfl rfl rfl rfl ⟨rfl, rfl⟩ hgg j rfl hj3 ?_
   refine nB (ti := aZ tab) dM 4 aA rfl rfl rfl rfl rfl rfl rfl rfl hgg j 0 ⟨m, q⟩ rfl hj3 rfl (fP ⟨m, q⟩) (fun _ => rfl) z63 z86 ?_
   obtain ⟨y9, hy9⟩ : ∃ y9 : StateH, y9 = ⟨y.places, y.status, y.sems, (y.onces.set j ⟨m, q⟩), y.groups, y.barriers, y.chans, y.said, y.fault, y.h0, y.h1, y.h2, y.h3, y.h4, y.h5, y.h6, y.h7⟩ := ⟨_, rfl⟩
   have hv : aM y9 = .agg #[y.h0.val y.places.length, y.h1.val y.status.length, y.h2.val y.sems.length, y.h3.val y.onces.length, y.h4.val y.groups.length, y.h5.val y.barriers.length, y.h6.val y.chans.length, y.h7.val y.said.length, .int .i64 y.fault] := by
     rw [hy9]; simp only [aM, List.length_set]
   have hN : Near (n + 1) y9.pure := by
     rw [hy9]
     have eon : (y.onces.set j ⟨m, q⟩).map (·.m) = (y.onces.map (·.m)).set j m := List.map_set ..
     exact ⟨⟨b0, b1, b2, ⟨by show ((y.onces.set j ⟨m, q⟩).map (·.m)).length ≤ 1048576; rw [eon, List.length_set, List.length_map]; omega, by show ∀ x ∈ (y.onces.set j ⟨m, q⟩).map (·.m), _; rw [eon]; exact zH b3.2 (by have := eD hm; show m.waits.length ≤ 1048576; omega)⟩, b4, b5, b6, b7⟩, nr.pl, nr.st, by show ((y.onces.set j ⟨m, q⟩).map (·.m)).length = 3; rw [eon, List.length_set]; exact nr.on, Nat.le_succ_of_le nr.sa, nr.ba⟩
   refine aU (Shift.pack (G := aJ y9) (dC y9 (by rw [hy9]; exact gK 2 3 4 0 5 6 7 8 rfl rfl rfl rfl rfl rfl rfl rfl) (by rw [hy9]; exact fun g hg => (nY hg).elim (fun h => jV 9 rfl h) (fun h => by obtain rfl := List.mem_singleton.1 h; exact kS 1 rfl rfl)))) ?_
   exact jE [0] ⟨y9, _, hv.symm, hN, rfl, by omega, rfl⟩ rfl rfl z118 rfl ⟨rfl, trivial⟩ (fun _ => rfl)
 refine aU (Shift.packK (G := aJ y) 0 rfl) ?_
 exact jE [0] ⟨y, _, rfl, ⟨⟨b0, b1, b2, b3, b4, b5, b6, b7⟩, nr.pl, nr.st, nr.on, Nat.le_succ_of_le nr.sa, nr.ba⟩, rfl, by omega, rfl⟩ rfl rfl z118 rfl ⟨rfl, trivial⟩ (fun _ => rfl)
end Go.Proofs.YtchkcjeeknfchaaGreatDoor
