/- FnMoreChoices: texts that its proof stands on, part 9. -/
import Derived.Test.YtijmjecehppbfaaGreatQMoreChoicesh
namespace Go.Proofs.YtijmjecehppbfaaGreat
set_option maxRecDepth 100000
set_option maxHeartbeats 100000000
open Go Go.Sx Go.RowKit
theorem cO (s : StateH) (w : World) (h : At w [fR (aK s)]) (hb : s.pure.small20) :
   Calls Tryz.prog 64 #[aM s] w (Ret w fun v L => ∃ y : StateH, v = aM y ∧ y.pure = s.pure ∧ L = [fO (aK y)]) := by
 obtain ⟨b0, b1, b2, b3, b4, b5, b6, b7⟩ := hb
 have l0 : s.places.length ≤ 1048576 := b0
 have l1 : s.status.length ≤ 1048576 := b1
 have l7 : s.said.length ≤ 1048576 := b7
 have l2 : s.sems.length ≤ 1048576 := (bM b2).1
 have l3 : s.onces.length ≤ 1048576 := (bM b3).1
 have l4 : s.groups.length ≤ 1048576 := (bM b4).1
 have l5 : s.barriers.length ≤ 1048576 := (bM b5).1
 have l6 : s.chans.length ≤ 1048576 := (bM b6).1
 refine bZ Tryz.func64 rfl aA w _ rfl _ rfl _ h ⟨rfl, rfl, trivial⟩ _ (by decide) ?_
 refine pW (Sl × Sl × Sl) (fun y => .mk [(1, .p 0 0), (2, .p 1 0), (3, .p 2 0)] 3 0 [(0, 35, 9), (1, 35, 9), (2, 35, 9)] [((0, 0), .v (s.h0.val s.places.length)), ((0, 1), .v (s.h1.val s.status.length)), ((0, 2), .v (s.h2.val s.sems.length)), ((0, 3), .v (s.h3.val s.onces.length)), ((0, 4), .v (s.h4.val s.groups.length)), ((0, 5), .v (s.h5.val s.barriers.length)), ((0, 6), .v (s.h6.val s.chans.length)), ((0, 7), .v (s.h7.val s.said.length)), ((0, 8), .v (.int .i64 s.fault)), ((2, 0), .v (y.1.val s.places.length)), ((2, 1), .v (y.2.1.val s.status.length)), ((2, 2), .v (.slice none 0 0)), ((2, 3), .v (.slice none 0 0)), ((2, 4), .v (.slice none 0 0)), ((2, 5), .v (.slice none 0 0)), ((2, 6), .v (.slice none 0 0)), ((2, 7), .v (y.2.2.val s.said.length)), ((2, 8), .v (.int .i64 s.fault))] [own y.1 3 aJ 1 s.places, own y.2.1 3 aJ 1 s.status, own y.2.2 3 aJ 1 s.said, fR (aK s)]) ?_ ?_
 · refine aF aA z102 z102 z102 200 [((0, 0), .v (s.h0.val s.places.length)), ((0, 1), .v (s.h1.val s.status.length)), ((0, 7), .v (s.h7.val s.said.length)), ((0, 8), .v (.int .i64 s.fault))] [] [] z122 z138 trivial rfl ?_
   refine BothW.mk ?_ ?_
   refine bN _ iF rfl rfl rfl rfl ⟨rfl, rfl⟩ (fun A w hW => cE s.h0 s.places w ⟨hW.get 0 rfl (.ofR (eF s)), trivial⟩ (by omega)) ?_
   rintro v L ⟨y0, rfl, rfl⟩
   refine BothW.mk ?_ ?_
   refine bN _ iF rfl rfl rfl rfl ⟨rfl, rfl⟩ (fun A w hW => cE s.h1 s.status w ⟨hW.get 1 rfl (.ofR (cS s)), trivial⟩ (by omega)) ?_
   rintro v L ⟨y1, rfl, rfl⟩
   refine BothW.mk ?_ ?_
   refine bN _ iF rfl rfl rfl rfl ⟨rfl, rfl⟩ (fun A w hW => cE s.h7 s.said w ⟨hW.get 2 rfl (.ofR (fM s)), trivial⟩ (by omega)) ?_
   rintro v L ⟨y7, rfl, rfl⟩
   rotate_left
   refine bN _ iF rfl rfl rfl rfl ⟨rfl, rfl⟩ (fun A w hW => cE s.h7 s.said w ⟨hW.get 2 rfl (.ofR (fM s)), trivial⟩ (by omega)) ?_
   rintro v L ⟨y7, rfl, rfl⟩
   rotate_left
   refine bN _ iF rfl rfl rfl rfl ⟨rfl, rfl⟩ (fun A w hW => cE s.h1 s.status w ⟨hW.get 1 rfl (.ofR (cS s)), trivial⟩ (by omega)) ?_
   rintro v L ⟨y1, rfl, rfl⟩
   refine bN _ iF rfl rfl rfl rfl ⟨rfl, rfl⟩ (fun A w hW => cE s.h7 s.said w ⟨hW.get 2 rfl (.ofR (fM s)), trivial⟩ (by omega)) ?_
   rintro v L ⟨y7, rfl, rfl⟩
   rotate_left
   refine bN _ iF rfl rfl rfl rfl ⟨rfl, rfl⟩ (fun A w hW => cE s.h0 s.places w ⟨hW.get 0 rfl (.ofR (eF s)), trivial⟩ (by omega)) ?_
   rintro v L ⟨y0, rfl, rfl⟩
   refine bN _ iF rfl rfl rfl rfl ⟨rfl, rfl⟩ (fun A w hW => cE s.h1 s.status w ⟨hW.get 1 rfl (.ofR (cS s)), trivial⟩ (by omega)) ?_
   rintro v L ⟨y1, rfl, rfl⟩
   refine bN _ iF rfl rfl rfl rfl ⟨rfl, rfl⟩ (fun A w hW => cE s.h7 s.said w ⟨hW.get 2 rfl (.ofR (fM s)), trivial⟩ (by omega)) ?_
   rintro v L ⟨y7, rfl, rfl⟩
   all_goals
     refine ⟨(y0, y1, y7), ?_⟩
     exact aC [2, 1, 0, 3] zw2 zw0 zw2 zw5 zw4 rfl rfl
 rintro ⟨a, b, d⟩
 simp only
 refine LoopW.mk ⟨{ q : Nat × Sl × List SemH // q.1 ≤ s.sems.length ∧ q.2.2.map (·.m) = (s.sems.map (·.m)).take q.1 },
   fun q => .mk [(1, .p 0 0), (2, .p 1 0), (3, .p 2 0), (27, .v (s.h2.val s.sems.length)), (28, .v (.int .i64 (s.sems.length : Int))), (29, .v (.int .i64 (q.1.1 : Int)))] 3 0 [(0, 35, 9), (1, 35, 9), (2, 35, 9)] [((0, 0), .v (s.h0.val s.places.length)), ((0, 1), .v (s.h1.val s.status.length)), ((0, 2), .v (s.h2.val s.sems.length)), ((0, 3), .v (s.h3.val s.onces.length)), ((0, 4), .v (s.h4.val s.groups.length)), ((0, 5), .v (s.h5.val s.barriers.length)), ((0, 6), .v (s.h6.val s.chans.length)), ((0, 7), .v (s.h7.val s.said.length)), ((0, 8), .v (.int .i64 s.fault)), ((2, 0), .v (a.val s.places.length)), ((2, 1), .v (b.val s.status.length)), ((2, 2), .v (q.1.2.1.val q.1.2.2.length)), ((2, 3), .v (.slice none 0 0)), ((2, 4), .v (.slice none 0 0)), ((2, 5), .v (.slice none 0 0)), ((2, 6), .v (.slice none 0 0)), ((2, 7), .v (d.val s.said.length)), ((2, 8), .v (.int .i64 s.fault))] [own q.1.2.1 95 gI 3 q.1.2.2, fO (q.1.2.2.flatMap oD), own a 3 aJ 1 s.places, own b 3 aJ 1 s.status, own d 3 aJ 1 s.said, fR (aK s)],
   fun q => s.sems.length - q.1.1, ⟨(0, ⟨none, 0⟩, []), Nat.zero_le _, by simp⟩, ?_, ?_⟩
 · refine aP (.joinO [] (Gs := []) trivial rfl (.refl _)) ?_
   exact aC [99, 0, 1, 2, 3, 4] zw2 zw0 zw2 zw5 zw4 rfl rfl
 rintro ⟨⟨k, c0, L0⟩, hk, hL0⟩
 simp only at hk hL0
 have ln0 : L0.length = k := by have := congrArg List.length hL0; simp at this; omega
 apply CaseB.mk <;> intro g
 · have hlt : k < s.sems.length := by simpa using g
   have hw := bD k _ hlt (by omega)
   have hsm := (bM b2).2 _ (List.getElem_mem hlt)
   refine aG cZ aA rfl rfl rfl rfl rfl ⟨rfl, rfl⟩ (aL 5 rfl (.trans (.R_R (bU s)) (.ofR aX))) k rfl z43 (fun ad => ?_)
   refine aF aA z102 z102 z102 200 [((3, 0), .v (.int .i64 (s.sems[k]).m.free)), ((3, 1), .v (.int .i64 (s.sems[k]).m.limit)), ((3, 2), .v ((s.sems[k]).q.val (s.sems[k]).m.queue.length))] [] [] z129 z141 trivial rfl ?_
   unfold Sem.small20 at hsm
   refine BothW.mk ?_ ?_
   all_goals
     refine bN _ bW0 rfl rfl rfl rfl ⟨rfl, rfl⟩ (fun A w hW => mZ _ _ w ⟨hW.get 5 rfl (.trans (.R_R (bU s)) (.ofR (iV _ _ k hlt))), trivial⟩ (by omega)) ?_
     rintro v L ⟨y0, rfl, rfl⟩
   rotate_left
   · refine BothW.mk ?_ ?_
     all_goals
       refine AllSl.mk fun u2 => ?_
       refine bR (ti := aU tab) cZ 2 aA (ys := [⟨(s.sems[k]).m, y0⟩]) rfl rfl rfl rfl rfl rfl rfl rfl rfl (by decide) ⟨rfl, rfl⟩ rfl z35 z43 z43 z100 (fun c2 => ?_)
       refine ⟨⟨(k + 1, c2, L0 ++ [⟨(s.sems[k]).m, y0⟩]), hlt, by rw [List.map_append]; exact aR hlt hL0 rfl⟩, ?_, by simp only; omega⟩
       refine aP (.joinO [2, 3] (Gs := [[_], _]) z136 rfl (G := (L0 ++ [(⟨(s.sems[k]).m, y0⟩ : SemH)]).flatMap oD) z50) ?_
       exact aC [1, 0, 3, 4, 5, 6] zw1 zw0 zw1 zw5 zw3 rfl rfl
   refine AllSl.mk fun u2 => ?_
   refine bR (ti := aU tab) cZ 2 aA (ys := [⟨(s.sems[k]).m, y0⟩]) rfl rfl rfl rfl rfl rfl rfl rfl rfl (by decide) ⟨rfl, rfl⟩ rfl z35 z43 z43 z100 (fun c2 => ?_)
   refine ⟨⟨(k + 1, c2, L0 ++ [⟨(s.sems[k]).m, y0⟩]), hlt, by rw [List.map_append]; exact aR hlt hL0 rfl⟩, ?_, by simp only; omega⟩
   refine aP (.joinO [2, 3] (Gs := [[_], _]) z136 rfl (G := (L0 ++ [(⟨(s.sems[k]).m, y0⟩ : SemH)]).flatMap oD) z50) ?_
   exact aC [1, 0, 3, 4, 5, 6] zw1 zw0 zw1 zw5 zw3 rfl rfl
 have hge : s.sems.length ≤ k := by simpa using g
 rw [List.take_of_length_le z91] at hL0
 refine LoopW.mk ⟨{ q : Nat × Sl × List OnceH // q.1 ≤ s.onces.length ∧ q.2.2.map (·.m) = (s.onces.map (·.m)).take q.1 },
   fun q => .mk [(1, .p 0 0), (2, .p 1 0), (3, .p 2 0), (42, .v (s.h3.val s.onces.length)), (43, .v (.int .i64 (s.onces.length : Int))), (44, .v (.int .i64 (q.1.1 : Int)))] 3 0 [(0, 35, 9), (1, 35, 9), (2, 35, 9)] [((0, 0), .v (s.h0.val s.places.length)), ((0, 1), .v (s.h1.val s.status.length)), ((0, 2), .v (s.h2.val s.sems.length)), ((0, 3), .v (s.h3.val s.onces.length)), ((0, 4), .v (s.h4.val s.groups.length)), ((0, 5), .v (s.h5.val s.barriers.length)), ((0, 6), .v (s.h6.val s.chans.length)), ((0, 7), .v (s.h7.val s.said.length)), ((0, 8), .v (.int .i64 s.fault)), ((2, 0), .v (a.val s.places.length)), ((2, 1), .v (b.val s.status.length)), ((2, 2), .v (c0.val L0.length)), ((2, 3), .v (q.1.2.1.val q.1.2.2.length)), ((2, 4), .v (.slice none 0 0)), ((2, 5), .v (.slice none 0 0)), ((2, 6), .v (.slice none 0 0)), ((2, 7), .v (d.val s.said.length)), ((2, 8), .v (.int .i64 s.fault))] [own q.1.2.1 102 eD 4 q.1.2.2, fO (q.1.2.2.flatMap mW), fO (jF c0 L0), own a 3 aJ 1 s.places, own b 3 aJ 1 s.status, own d 3 aJ 1 s.said, fR (aK s)],
   fun q => s.onces.length - q.1.1, ⟨(0, ⟨none, 0⟩, []), Nat.zero_le _, by simp⟩, ?_, ?_⟩
 · refine aP (.joinO [0, 1] (Gs := [[_], _]) z136 rfl (G := jF c0 L0) (.of_eq (by simp [jF, iK]))) ?_
   refine aP (.joinO [] (Gs := []) trivial rfl (.refl _)) ?_
   exact aC [99, 0, 1, 2, 3, 4, 5] zw2 zw0 zw2 zw5 zw4 rfl rfl
 rintro ⟨⟨k, c1, L1⟩, hk, hL1⟩
 simp only at hk hL1
 have ln1 : L1.length = k := by have := congrArg List.length hL1; simp at this; omega
 apply CaseB.mk <;> intro g
 · have hlt : k < s.onces.length := by simpa using g
   have hw := bD k _ hlt (by omega)
   have hsm := (bM b3).2 _ (List.getElem_mem hlt)
   refine aG cX aA rfl rfl rfl rfl rfl ⟨rfl, rfl⟩ (aL 6 rfl (.trans (.R_R (bW s)) (.ofR aX))) k rfl z43 (fun ad => ?_)
   refine aF aA z102 z102 z102 200 [((3, 0), .v (.int .i64 (s.onces[k]).m.state)), ((3, 1), .v (.int .i64 (s.onces[k]).m.owner)), ((3, 2), .v (.int .i64 (s.onces[k]).m.value)), ((3, 3), .v ((s.onces[k]).q.val (s.onces[k]).m.waits.length))] [] [] z122 z138 trivial rfl ?_
   unfold Once.small20 at hsm
   refine BothW.mk ?_ ?_
   all_goals
     refine bN _ jC0 rfl rfl rfl rfl ⟨rfl, rfl⟩ (fun A w hW => qE _ _ w ⟨hW.get 6 rfl (.trans (.R_R (bW s)) (.ofR (hC _ _ k hlt))), trivial⟩ (by omega)) ?_
     rintro v L ⟨y0, rfl, rfl⟩
   rotate_left
   · refine BothW.mk ?_ ?_
     all_goals
       refine AllSl.mk fun u2 => ?_
       refine bR (ti := aU tab) cX 2 aA (ys := [⟨(s.onces[k]).m, y0⟩]) rfl rfl rfl rfl rfl rfl rfl rfl rfl (by decide) ⟨rfl, rfl⟩ rfl z35 z43 z43 z100 (fun c2 => ?_)
       refine ⟨⟨(k + 1, c2, L1 ++ [⟨(s.onces[k]).m, y0⟩]), hlt, by rw [List.map_append]; exact aR hlt hL1 rfl⟩, ?_, by simp only; omega⟩
       refine aP (.joinO [2, 3] (Gs := [[_], _]) z136 rfl (G := (L1 ++ [(⟨(s.onces[k]).m, y0⟩ : OnceH)]).flatMap mW) z48) ?_
       exact aC [1, 0, 3, 4, 5, 6, 7] zw1 zw0 zw1 zw5 zw3 rfl rfl
   refine AllSl.mk fun u2 => ?_
   refine bR (ti := aU tab) cX 2 aA (ys := [⟨(s.onces[k]).m, y0⟩]) rfl rfl rfl rfl rfl rfl rfl rfl rfl (by decide) ⟨rfl, rfl⟩ rfl z35 z43 z43 z100 (fun c2 => ?_)
   refine ⟨⟨(k + 1, c2, L1 ++ [⟨(s.onces[k]).m, y0⟩]), hlt, by rw [List.map_append]; exact aR hlt hL1 rfl⟩, ?_, by simp only; omega⟩
   refine aP (.joinO [2, 3] (Gs := [[_], _]) z136 rfl (G := (L1 ++ [(⟨(s.onces[k]).m, y0⟩ : OnceH)]).flatMap mW) z48) ?_
   exact aC [1, 0, 3, 4, 5, 6, 7] zw1 zw0 zw1 zw5 zw3 rfl rfl
 have hge : s.onces.length ≤ k := by simpa using g
 rw [List.take_of_length_le z91] at hL1
 refine LoopW.mk ⟨{ q : Nat × Sl × List GroupH // q.1 ≤ s.groups.length ∧ q.2.2.map (·.m) = (s.groups.map (·.m)).take q.1 },
   fun q => .mk [(1, .p 0 0), (2, .p 1 0), (3, .p 2 0), (57, .v (s.h4.val s.groups.length)), (58, .v (.int .i64 (s.groups.length : Int))), (59, .v (.int .i64 (q.1.1 : Int)))] 3 0 [(0, 35, 9), (1, 35, 9), (2, 35, 9)] [((0, 0), .v (s.h0.val s.places.length)), ((0, 1), .v (s.h1.val s.status.length)), ((0, 2), .v (s.h2.val s.sems.length)), ((0, 3), .v (s.h3.val s.onces.length)), ((0, 4), .v (s.h4.val s.groups.length)), ((0, 5), .v (s.h5.val s.barriers.length)), ((0, 6), .v (s.h6.val s.chans.length)), ((0, 7), .v (s.h7.val s.said.length)), ((0, 8), .v (.int .i64 s.fault)), ((2, 0), .v (a.val s.places.length)), ((2, 1), .v (b.val s.status.length)), ((2, 2), .v (c0.val L0.length)), ((2, 3), .v (c1.val L1.length)), ((2, 4), .v (q.1.2.1.val q.1.2.2.length)), ((2, 5), .v (.slice none 0 0)), ((2, 6), .v (.slice none 0 0)), ((2, 7), .v (d.val s.said.length)), ((2, 8), .v (.int .i64 s.fault))] [own q.1.2.1 108 dR 2 q.1.2.2, fO (q.1.2.2.flatMap jD), fO (gT c1 L1), fO (jF c0 L0), own a 3 aJ 1 s.places, own b 3 aJ 1 s.status, own d 3 aJ 1 s.said, fR (aK s)],
   fun q => s.groups.length - q.1.1, ⟨(0, ⟨none, 0⟩, []), Nat.zero_le _, by simp⟩, ?_, ?_⟩
 · refine aP (.joinO [0, 1] (Gs := [[_], _]) z136 rfl (G := gT c1 L1) (.of_eq (by simp [gT, iK]))) ?_
   refine aP (.joinO [] (Gs := []) trivial rfl (.refl _)) ?_
   exact aC [99, 0, 1, 2, 3, 4, 5, 6] zw2 zw0 zw2 zw5 zw4 rfl rfl
 rintro ⟨⟨k, c2, L2⟩, hk, hL2⟩
 simp only at hk hL2
 have ln2 : L2.length = k := by have := congrArg List.length hL2; simp at this; omega
 apply CaseB.mk <;> intro g
 · have hlt : k < s.groups.length := by simpa using g
   have hw := bD k _ hlt (by omega)
   have hsm := (bM b4).2 _ (List.getElem_mem hlt)
   refine aG cI aA rfl rfl rfl rfl rfl ⟨rfl, rfl⟩ (aL 7 rfl (.trans (.R_R (bL s)) (.ofR aX))) k rfl z43 (fun ad => ?_)
   refine aF aA z102 z102 z102 200 [((3, 0), .v (.int .i64 (s.groups[k]).m.count)), ((3, 1), .v ((s.groups[k]).q.val (s.groups[k]).m.waits.length))] [] [] z135 z145 trivial rfl ?_
   unfold Group.small20 at hsm
   refine BothW.mk ?_ ?_
   all_goals
     refine bN _ iF rfl rfl rfl rfl ⟨rfl, rfl⟩ (fun A w hW => cE _ _ w ⟨hW.get 7 rfl (.trans (.R_R (bL s)) (.ofR (eK _ _ k hlt))), trivial⟩ (by omega)) ?_
     rintro v L ⟨y0, rfl, rfl⟩
   rotate_left
   · refine BothW.mk ?_ ?_
     all_goals
       refine AllSl.mk fun u2 => ?_
       refine bR (ti := aU tab) cI 2 aA (ys := [⟨(s.groups[k]).m, y0⟩]) rfl rfl rfl rfl rfl rfl rfl rfl rfl (by decide) ⟨rfl, rfl⟩ rfl z35 z43 z43 z100 (fun c2 => ?_)
       refine ⟨⟨(k + 1, c2, L2 ++ [⟨(s.groups[k]).m, y0⟩]), hlt, by rw [List.map_append]; exact aR hlt hL2 rfl⟩, ?_, by simp only; omega⟩
       refine aP (.joinO [2, 3] (Gs := [[_], _]) z136 rfl (G := (L2 ++ [(⟨(s.groups[k]).m, y0⟩ : GroupH)]).flatMap jD) z47) ?_
       exact aC [1, 0, 3, 4, 5, 6, 7, 8] zw1 zw0 zw1 zw5 zw3 rfl rfl
   refine AllSl.mk fun u2 => ?_
   refine bR (ti := aU tab) cI 2 aA (ys := [⟨(s.groups[k]).m, y0⟩]) rfl rfl rfl rfl rfl rfl rfl rfl rfl (by decide) ⟨rfl, rfl⟩ rfl z35 z43 z43 z100 (fun c2 => ?_)
   refine ⟨⟨(k + 1, c2, L2 ++ [⟨(s.groups[k]).m, y0⟩]), hlt, by rw [List.map_append]; exact aR hlt hL2 rfl⟩, ?_, by simp only; omega⟩
   refine aP (.joinO [2, 3] (Gs := [[_], _]) z136 rfl (G := (L2 ++ [(⟨(s.groups[k]).m, y0⟩ : GroupH)]).flatMap jD) z47) ?_
   exact aC [1, 0, 3, 4, 5, 6, 7, 8] zw1 zw0 zw1 zw5 zw3 rfl rfl
 have hge : s.groups.length ≤ k := by simpa using g
 rw [List.take_of_length_le z91] at hL2
 refine LoopW.mk ⟨{ q : Nat × Sl × List BarrierH // q.1 ≤ s.barriers.length ∧ q.2.2.map (·.m) = (s.barriers.map (·.m)).take q.1 },
   fun q => .mk [(1, .p 0 0), (2, .p 1 0), (3, .p 2 0), (76, .v (s.h5.val s.barriers.length)), (77, .v (.int .i64 (s.barriers.length : Int))), (78, .v (.int .i64 (q.1.1 : Int)))] 3 0 [(0, 35, 9), (1, 35, 9), (2, 35, 9)] [((0, 0), .v (s.h0.val s.places.length)), ((0, 1), .v (s.h1.val s.status.length)), ((0, 2), .v (s.h2.val s.sems.length)), ((0, 3), .v (s.h3.val s.onces.length)), ((0, 4), .v (s.h4.val s.groups.length)), ((0, 5), .v (s.h5.val s.barriers.length)), ((0, 6), .v (s.h6.val s.chans.length)), ((0, 7), .v (s.h7.val s.said.length)), ((0, 8), .v (.int .i64 s.fault)), ((2, 0), .v (a.val s.places.length)), ((2, 1), .v (b.val s.status.length)), ((2, 2), .v (c0.val L0.length)), ((2, 3), .v (c1.val L1.length)), ((2, 4), .v (c2.val L2.length)), ((2, 5), .v (q.1.2.1.val q.1.2.2.length)), ((2, 6), .v (.slice none 0 0)), ((2, 7), .v (d.val s.said.length)), ((2, 8), .v (.int .i64 s.fault))] [own q.1.2.1 114 dA 3 q.1.2.2, fO (q.1.2.2.flatMap eC), fO (fL c2 L2), fO (gT c1 L1), fO (jF c0 L0), own a 3 aJ 1 s.places, own b 3 aJ 1 s.status, own d 3 aJ 1 s.said, fR (aK s)],
   fun q => s.barriers.length - q.1.1, ⟨(0, ⟨none, 0⟩, []), Nat.zero_le _, by simp⟩, ?_, ?_⟩
 · refine aP (.joinO [0, 1] (Gs := [[_], _]) z136 rfl (G := fL c2 L2) (.of_eq (by simp [fL, iK]))) ?_
   refine aP (.joinO [] (Gs := []) trivial rfl (.refl _)) ?_
   exact aC [99, 0, 1, 2, 3, 4, 5, 6, 7] zw2 zw0 zw2 zw5 zw4 rfl rfl
 rintro ⟨⟨k, c3, L3⟩, hk, hL3⟩
 simp only at hk hL3
 have ln3 : L3.length = k := by have := congrArg List.length hL3; simp at this; omega
 apply CaseB.mk <;> intro g
 · have hlt : k < s.barriers.length := by simpa using g
   have hw := bD k _ hlt (by omega)
   have hsm := (bM b5).2 _ (List.getElem_mem hlt)
   refine aG cA aA rfl rfl rfl rfl rfl ⟨rfl, rfl⟩ (aL 8 rfl (.trans (.R_R (bJ s)) (.ofR aX))) k rfl z43 (fun ad => ?_)
   refine aF aA z102 z102 z102 200 [((3, 0), .v (.int .i64 (s.barriers[k]).m.parties)), ((3, 1), .v (.int .i64 (s.barriers[k]).m.round)), ((3, 2), .v ((s.barriers[k]).q.val (s.barriers[k]).m.waits.length))] [] [] z129 z141 trivial rfl ?_
   unfold Barrier.small20 at hsm
   refine BothW.mk ?_ ?_
   all_goals
     refine bN _ iF rfl rfl rfl rfl ⟨rfl, rfl⟩ (fun A w hW => cE _ _ w ⟨hW.get 8 rfl (.trans (.R_R (bJ s)) (.ofR (dO _ _ k hlt))), trivial⟩ (by omega)) ?_
     rintro v L ⟨y0, rfl, rfl⟩
   rotate_left
   · refine BothW.mk ?_ ?_
     all_goals
       refine AllSl.mk fun u2 => ?_
       refine bR (ti := aU tab) cA 2 aA (ys := [⟨(s.barriers[k]).m, y0⟩]) rfl rfl rfl rfl rfl rfl rfl rfl rfl (by decide) ⟨rfl, rfl⟩ rfl z35 z43 z43 z100 (fun c2 => ?_)
       refine ⟨⟨(k + 1, c2, L3 ++ [⟨(s.barriers[k]).m, y0⟩]), hlt, by rw [List.map_append]; exact aR hlt hL3 rfl⟩, ?_, by simp only; omega⟩
       refine aP (.joinO [2, 3] (Gs := [[_], _]) z136 rfl (G := (L3 ++ [(⟨(s.barriers[k]).m, y0⟩ : BarrierH)]).flatMap eC) z46) ?_
       exact aC [1, 0, 3, 4, 5, 6, 7, 8, 9] zw1 zw0 zw1 zw5 zw3 rfl rfl
   refine AllSl.mk fun u2 => ?_
   refine bR (ti := aU tab) cA 2 aA (ys := [⟨(s.barriers[k]).m, y0⟩]) rfl rfl rfl rfl rfl rfl rfl rfl rfl (by decide) ⟨rfl, rfl⟩ rfl z35 z43 z43 z100 (fun c2 => ?_)
   refine ⟨⟨(k + 1, c2, L3 ++ [⟨(s.barriers[k]).m, y0⟩]), hlt, by rw [List.map_append]; exact aR hlt hL3 rfl⟩, ?_, by simp only; omega⟩
   refine aP (.joinO [2, 3] (Gs := [[_], _]) z136 rfl (G := (L3 ++ [(⟨(s.barriers[k]).m, y0⟩ : BarrierH)]).flatMap eC) z46) ?_
   exact aC [1, 0, 3, 4, 5, 6, 7, 8, 9] zw1 zw0 zw1 zw5 zw3 rfl rfl
 have hge : s.barriers.length ≤ k := by simpa using g
 rw [List.take_of_length_le z91] at hL3
 refine LoopW.mk ⟨{ q : Nat × Sl × List ChanH // q.1 ≤ s.chans.length ∧ q.2.2.map (·.m) = (s.chans.map (·.m)).take q.1 },
   fun q => .mk [(1, .p 0 0), (2, .p 1 0), (3, .p 2 0), (97, .v (s.h6.val s.chans.length)), (98, .v (.int .i64 (s.chans.length : Int))), (99, .v (.int .i64 (q.1.1 : Int)))] 3 0 [(0, 35, 9), (1, 35, 9), (2, 35, 9)] [((0, 0), .v (s.h0.val s.places.length)), ((0, 1), .v (s.h1.val s.status.length)), ((0, 2), .v (s.h2.val s.sems.length)), ((0, 3), .v (s.h3.val s.onces.length)), ((0, 4), .v (s.h4.val s.groups.length)), ((0, 5), .v (s.h5.val s.barriers.length)), ((0, 6), .v (s.h6.val s.chans.length)), ((0, 7), .v (s.h7.val s.said.length)), ((0, 8), .v (.int .i64 s.fault)), ((2, 0), .v (a.val s.places.length)), ((2, 1), .v (b.val s.status.length)), ((2, 2), .v (c0.val L0.length)), ((2, 3), .v (c1.val L1.length)), ((2, 4), .v (c2.val L2.length)), ((2, 5), .v (c3.val L3.length)), ((2, 6), .v (q.1.2.1.val q.1.2.2.length)), ((2, 7), .v (d.val s.said.length)), ((2, 8), .v (.int .i64 s.fault))] [own q.1.2.1 119 fH 5 q.1.2.2, fO (q.1.2.2.flatMap gM), fO (eE c3 L3), fO (fL c2 L2), fO (gT c1 L1), fO (jF c0 L0), own a 3 aJ 1 s.places, own b 3 aJ 1 s.status, own d 3 aJ 1 s.said, fR (aK s)],
   fun q => s.chans.length - q.1.1, ⟨(0, ⟨none, 0⟩, []), Nat.zero_le _, by simp⟩, ?_, ?_⟩
 · refine aP (.joinO [0, 1] (Gs := [[_], _]) z136 rfl (G := eE c3 L3) (.of_eq (by simp [eE, iK]))) ?_
   refine aP (.joinO [] (Gs := []) trivial rfl (.refl _)) ?_
   exact aC [99, 0, 1, 2, 3, 4, 5, 6, 7, 8] zw2 zw0 zw2 zw5 zw4 rfl rfl
 rintro ⟨⟨k, c4, L4⟩, hk, hL4⟩
 simp only at hk hL4
 have ln4 : L4.length = k := by have := congrArg List.length hL4; simp at this; omega
 apply CaseB.mk <;> intro g
 · have hlt : k < s.chans.length := by simpa using g
   have hw := bD k _ hlt (by omega)
   have hsm := (bM b6).2 _ (List.getElem_mem hlt)
   refine aG cN aA rfl rfl rfl rfl rfl ⟨rfl, rfl⟩ (aL 9 rfl (.trans (.R_R (aQ s)) (.ofR aX))) k rfl z43 (fun ad => ?_)
   refine aF aA z102 z102 z102 200 [((3, 0), .v (.int .i64 (s.chans[k]).m.room)), ((3, 1), .v ((s.chans[k]).q0.val (s.chans[k]).m.items.length)), ((3, 2), .v ((s.chans[k]).q1.val (s.chans[k]).m.senders.length)), ((3, 3), .v ((s.chans[k]).q2.val (s.chans[k]).m.getters.length)), ((3, 4), .v (.bool (s.chans[k]).m.closed))] [] [] z117 z133 trivial rfl ?_
   obtain ⟨z0, z1, z2⟩ := hsm
   refine BothW.mk ?_ ?_
   all_goals
     refine bN _ sN rfl rfl rfl rfl ⟨rfl, rfl⟩ (fun A w hW => mD _ _ _ _ w ⟨hW.get 9 rfl (.trans (.R_R (aQ s)) (.ofR (kO _ _ k hlt))), hW.get 9 rfl (.trans (.R_R (aQ s)) (.ofR (gJ _ _ k hlt))), hW.get 9 rfl (.trans (.R_R (aQ s)) (.ofR (hH _ _ k hlt))), trivial⟩ ⟨by omega, by omega, by omega⟩) ?_
     rintro v L ⟨y0, y1, y2, rfl, rfl⟩
   rotate_left
   · refine BothW.mk ?_ ?_
     all_goals
       refine AllSl.mk fun u2 => ?_
       refine bR (ti := aU tab) cN 4 aA (ys := [⟨(s.chans[k]).m, y0, y1, y2⟩]) rfl rfl rfl rfl rfl rfl rfl rfl rfl (by decide) ⟨rfl, rfl⟩ rfl z35 z43 z43 z100 (fun c2 => ?_)
       refine ⟨⟨(k + 1, c2, L4 ++ [⟨(s.chans[k]).m, y0, y1, y2⟩]), hlt, by rw [List.map_append]; exact aR hlt hL4 rfl⟩, ?_, by simp only; omega⟩
       refine aP (.joinO [2, 3, 4, 5] (Gs := [[_], [_], [_], _]) z120 rfl (G := (L4 ++ [(⟨(s.chans[k]).m, y0, y1, y2⟩ : ChanH)]).flatMap gM) z49) ?_
       exact aC [1, 0, 3, 4, 5, 6, 7, 8, 9, 10] zw1 zw0 zw1 zw5 zw3 rfl rfl
   refine AllSl.mk fun u2 => ?_
   refine bR (ti := aU tab) cN 4 aA (ys := [⟨(s.chans[k]).m, y0, y1, y2⟩]) rfl rfl rfl rfl rfl rfl rfl rfl rfl (by decide) ⟨rfl, rfl⟩ rfl z35 z43 z43 z100 (fun c2 => ?_)
   refine ⟨⟨(k + 1, c2, L4 ++ [⟨(s.chans[k]).m, y0, y1, y2⟩]), hlt, by rw [List.map_append]; exact aR hlt hL4 rfl⟩, ?_, by simp only; omega⟩
   refine aP (.joinO [2, 3, 4, 5] (Gs := [[_], [_], [_], _]) z120 rfl (G := (L4 ++ [(⟨(s.chans[k]).m, y0, y1, y2⟩ : ChanH)]).flatMap gM) z49) ?_
   exact aC [1, 0, 3, 4, 5, 6, 7, 8, 9, 10] zw1 zw0 zw1 zw5 zw3 rfl rfl
 have hge : s.chans.length ≤ k := by simpa using g
 rw [List.take_of_length_le z91] at hL4
 refine aO (.joinO [0, 1] (Gs := [[_], _]) z136 rfl (G := jQ c4 L4) (.of_eq (by simp [jQ, iK]))) ?_
 generalize hy : (⟨s.places, s.status, L0, L1, L2, L3, L4, s.said, s.fault, a, b, c0, c1, c2, c3, c4, d⟩ : StateH) = y
 refine aO (.joinO [5, 6, 4, 3, 2, 1, 0, 7] (Gs := [[_], [_], _, _, _, _, _, [_]]) z110 rfl (G := aK y) (by subst hy; exact .of_eq z96)) ?_
 exact bG [0] ⟨y, by rw [← hy]; rfl, by rw [← hy]; simp [StateH.pure, hL0, hL1, hL2, hL3, hL4], rfl⟩ z144 rfl ⟨rfl, trivial⟩ (fun _ => rfl)
def xK (P : ProgH) (y : StateH) (n m : Nat) (sd : Value) (full : Bool) : List Value :=
 [P.h0.val P.sems.length, P.h1.val P.groups.length, P.h2.val P.barriers.length, P.h3.val P.rooms.length, P.h4.val P.threads.length, y.h0.val n, y.h1.val m, y.h2.val y.sems.length, y.h3.val y.onces.length, y.h4.val y.groups.length, y.h5.val y.barriers.length, y.h6.val y.chans.length, sd, .int .i64 y.fault, .bool full]
theorem cS0 (p : Prog) (who : List Int) (s : State) {k : Nat} (hk : k < who.length) : onM p (who.take (k + 1)) s = goM p (onM p (who.take k) s) who[k] := by
 rw [List.take_succ_eq_append_getElem hk, onM, List.foldl_append]; rfl
theorem aT (p : Prog) (who : List Int) (s : State) : (onM p who s).places.length = s.places.length ∧ (onM p who s).status.length = s.status.length := by
 obtain ⟨pl, st, h, h1, h2⟩ := oI p who s
 rw [h]; exact ⟨h1, h2⟩
theorem hZ (p : Prog) : ∀ (who : List Int) (s : State) (B : Int), 0 ≤ B → (∀ a ∈ s.places, 0 ≤ a ∧ a ≤ B) → ∀ a ∈ (onM p who s).places, 0 ≤ a ∧ a ≤ B + who.length
 | [], s, B, _, h => fun a ha => by have := h a ha; simp; omega
 | x :: r, s, B, hB, h => fun a ha => by
   have hg : ∀ a ∈ (goM p s x).places, 0 ≤ a ∧ a ≤ B + 1 := by
     intro a ha
     simp only [goM] at ha
     rcases List.mem_or_eq_of_mem_set ha with ha | rfl
     · have := h a ha; omega
     · rw [List.getD_eq_getElem?_getD]
       cases hx : s.places[x.toNat]? with
       | none => simp; omega
       | some u => have := h u (List.mem_of_getElem? hx); simp; omega
   have := hZ p r (goM p s x) (B + 1) (by omega) hg a ha
   simp only [List.length_cons]
   omega
theorem jU (g n m : Nat) (P : ProgH) (y : StateH) (sd : Value) (full : Bool) (z : Sl) (who : List Int) (s : State) (w : World) (hg : Blk w g 89 (xK P y n m sd full))
   (h : AtG w [own y.h0 3 aJ 1 s.places, own y.h1 3 aJ 1 s.status] [slo P.h4 kP 1 P.threads, slo z aJ 1 who])
   (hoff : ∀ f ∈ [own y.h0 3 aJ 1 s.places, own y.h1 3 aJ 1 s.status] ++ [slo P.h4 kP 1 P.threads, slo z aJ 1 who], ∀ b, f.foot b → b ≠ g)
   (h1 : s.places.length = n) (h2 : s.status.length = m) (hm : n = m) (hn : P.threads.length = n) (hw : ∀ t ∈ who, 0 ≤ t ∧ t < n) (hl : who.length ≤ 100) (hp : ∀ a ∈ s.places, 0 ≤ a ∧ a ≤ 100) (_hn4 : n ≤ 100) :
   Calls Tryz.prog 67 #[.pointer (some ⟨g, 0, none⟩), z.val who.length] w (vG w g 89 15 [own y.h0 3 aJ 1 s.places, own y.h1 3 aJ 1 s.status]
     fun v cs L => v = .tuple #[] ∧ cs = xK P y n m sd full ∧ L = [own y.h0 3 aJ 1 (onM P.pure who s).places, own y.h1 3 aJ 1 (onM P.pure who s).status]) := by
 subst hm
 refine rY Tryz.func67 rfl aA w _ rfl _ rfl _ 89 _ 15 rfl hg _ _ h hoff ⟨rfl, rfl, rfl, rfl, trivial⟩ _ _ rfl rfl ?_
 refine LoopW.mk ⟨{ q : Nat × List Int × List Int // q.1 ≤ who.length ∧ q.2.1 = (onM P.pure (who.take q.1) s).places ∧ q.2.2 = (onM P.pure (who.take q.1) s).status },
   fun q => .mk [(0, .p 0 0), (6, .v (z.val who.length)), (7, .v (.int .i64 (who.length : Int))), (8, .v (.int .i64 (q.1.1 : Int)))] 1 0 [(0, 89, 15)]
     [((0, 0), .v (P.h0.val P.sems.length)), ((0, 1), .v (P.h1.val P.groups.length)), ((0, 2), .v (P.h2.val P.barriers.length)), ((0, 3), .v (P.h3.val P.rooms.length)), ((0, 4), .v (P.h4.val P.threads.length)), ((0, 5), .v (y.h0.val q.1.2.1.length)), ((0, 6), .v (y.h1.val q.1.2.2.length)), ((0, 7), .v (y.h2.val y.sems.length)), ((0, 8), .v (y.h3.val y.onces.length)), ((0, 9), .v (y.h4.val y.groups.length)), ((0, 10), .v (y.h5.val y.barriers.length)), ((0, 11), .v (y.h6.val y.chans.length)), ((0, 12), .v sd), ((0, 13), .v (.int .i64 y.fault)), ((0, 14), .v (.bool full))]
     [own y.h0 3 aJ 1 q.1.2.1, own y.h1 3 aJ 1 q.1.2.2, slo P.h4 kP 1 P.threads, slo z aJ 1 who],
   fun q => who.length - q.1.1, ⟨(0, s.places, s.status), Nat.zero_le _, rfl, rfl⟩, ?_, ?_⟩
 · exact aC [0, 1, 2, 3] zw12 zw0 zw12 zw5 zw27 rfl rfl
 rintro ⟨⟨k, pl, st⟩, hk, hpl, hst⟩
 simp only at hk hpl hst
 have l1 : pl.length = n := by rw [hpl, (aT _ _ _).1, h1]
 have l2 : st.length = n := by rw [hst, (aT _ _ _).2, h2]
 refine CaseB.mk (fun g3 => ?_) (fun g3 => ?_)
 · have hlt : k < who.length := by simpa using g3
   have hw' := bD k _ hlt (by omega)
   obtain ⟨t0, t1⟩ := hw _ (List.getElem_mem hlt)
   obtain ⟨τ, hτ⟩ : ∃ τ : Nat, who[k] = (τ : Int) := ⟨_, (Int.toNat_of_nonneg t0).symm⟩
   have hτn : τ < n := by omega
   have hτp : τ < pl.length := by omega
   have hτs : τ < st.length := by omega
   have hτP : τ < P.threads.length := by omega
   have hb := hZ P.pure (who.take k) s 100 (by omega) hp
   rw [← hpl] at hb
   have hpb := hb _ (List.getElem_mem hτp)
   have htl : ((who.take k).length : Int) ≤ 100 := by simp; omega
   have hw1 : IntKind.i64.wrap (pl[τ] + 1) = pl[τ] + 1 := by rw [IntKind.wrap_i64]; omega
   have hgo := cS0 P.pure who s hlt
   refine aG aE aA rfl rfl rfl rfl rfl ⟨rfl, rfl⟩ z35 k rfl z43 (fun ad => ?_)
   refine aG aE aA rfl rfl rfl rfl rfl ⟨rfl, rfl⟩ (aL 0 rfl (Rd.own (o := false) (o' := false))) τ hτ z43 (fun ad2 => ?_)
   refine cP aE 0 aA rfl rfl rfl rfl rfl ⟨rfl, rfl⟩ rfl z89 τ hτ z43 (fun g1 hg1 => ?_)
   refine bS aE 0 aA rfl rfl rfl rfl rfl rfl rfl rfl hg1 τ 0 (pl[τ] + 1) rfl hτp rfl [.int .i64 (pl[τ] + 1)] (fun _ => by simp [SV.den, hw1]) rfl ?_
   refine cP aE 1 aA rfl rfl rfl rfl rfl ⟨rfl, rfl⟩ rfl z89 τ hτ z43 (fun g2 hg2 => ?_)
   refine bS aE 1 aA rfl rfl rfl rfl rfl rfl rfl rfl hg2 τ 0 0 rfl hτs rfl [.int .i64 0] (fun _ => rfl) rfl ?_
   have hset : (pl.set τ (pl[τ] + 1))[τ]'(by simpa using hτp) = pl[τ] + 1 := by simp
   refine aF aA z102 z102 z102 200 [((0, 4), .v (P.h4.val P.threads.length)), ((0, 5), .v (y.h0.val pl.length))] [1, 2] [_, _] z135 z145 ⟨rfl, rfl, trivial⟩ rfl ?_
   refine bO (ti := aU tab) (xs := pl.set τ (pl[τ] + 1)) aE aA rfl (by rw [List.length_set]; rfl) rfl rfl rfl ⟨rfl, rfl⟩ (aL 0 rfl (Rd.own (o := false) (o' := false))) τ hτ (by simpa using hτp) (fun ad3 => ?_)
   refine bO (ti := aU tab) dT aA rfl rfl rfl rfl rfl ⟨rfl, rfl⟩ z35 τ hτ z43 (fun ad4 => ?_)
   have hpg : (onM P.pure (who.take k) s).places.getD τ 0 = pl[τ] := by rw [← hpl, List.getD_eq_getElem?_getD, List.getElem?_eq_getElem hτp]; rfl
   have hPg : (P.pure.threads.getD τ []).length = P.threads[τ].m.length := by simp [ProgH.pure, List.getD_eq_getElem?_getD, hτP]
   have hgo1 : (onM P.pure (who.take (k + 1)) s).places = pl.set τ (pl[τ] + 1) := by rw [hgo, hτ]; simp only [goM, Int.toNat_natCast, hpg, hpl]
   have hgo2 : (onM P.pure (who.take (k + 1)) s).status = st.set τ (nO P.pure τ (pl[τ] + 1)) := by rw [hgo, hτ]; simp only [goM, Int.toNat_natCast, hpg, hst]
   refine CaseB.mk (fun g4 => ?_) (fun g4 => ?_)
   · have hr : nO P.pure τ (pl[τ] + 1) = 3 := by
       rw [nO, hPg, if_pos]
       have g5 := g4
       simp only [hset] at g5
       simpa using g5
     refine cP aE 0 aA rfl rfl rfl rfl rfl ⟨rfl, rfl⟩ rfl z89 τ hτ z43 (fun g3 hg3 => ?_)
     refine bS aE 0 aA rfl rfl rfl rfl rfl rfl rfl rfl hg3 τ 0 3 rfl (by simpa using hτs) rfl [.int .i64 3] (fun _ => rfl) rfl ?_
     refine ⟨⟨(k + 1, pl.set τ (pl[τ] + 1), (st.set τ 0).set τ 3), hlt, hgo1.symm, by rw [hgo2, hr]; simp⟩, ?_, by simp only; omega⟩
     exact aC [1, 0, 2, 3] zw10 zw0 zw10 zw5 zw25 rfl rfl
   · have hr : nO P.pure τ (pl[τ] + 1) = 0 := by
       rw [nO, hPg, if_neg]
       have g5 := g4
       simp only [hset] at g5
       simpa using g5
     refine ⟨⟨(k + 1, pl.set τ (pl[τ] + 1), st.set τ 0), hlt, hgo1.symm, by rw [hgo2, hr]⟩, ?_, by simp only; omega⟩
     exact aC [1, 0, 2, 3] zw10 zw0 zw10 zw5 zw25 rfl rfl
 · have hge : who.length ≤ k := by simpa using g3
   rw [List.take_of_length_le hge] at hpl hst
   rw [← hpl, ← hst]
   exact vH [0, 1] ⟨rfl, by simp only [xK, l1, l2], rfl⟩ rfl rfl z137 rfl ⟨rfl, rfl, trivial⟩ (fun _ => rfl)
def kU (sd : List Int) (v : Int) : List Int := if 64 ≤ sd.length then sd else sd ++ [v]
theorem kL0 (g n m : Nat) (P : ProgH) (y : StateH) (z : Sl) (sd : List Int) (full : Bool) (u : Int) (w : World) (hg : Blk w g 89 (xK P y n m (z.val sd.length) full))
   (h : AtG w [own z 3 aJ 1 sd] []) (hoff : ∀ f ∈ [own z 3 aJ 1 sd] ++ [], ∀ b, f.foot b → b ≠ g) (hl : sd.length ≤ 100) :
   Calls Tryz.prog 66 #[.pointer (some ⟨g, 0, none⟩), .int .i64 u] w (vG w g 89 15 [own z 3 aJ 1 sd]
     fun v cs L => v = .tuple #[] ∧ ∃ z2 : Sl, cs = xK P y n m (z2.val (kU sd u).length) (full || decide (64 ≤ sd.length)) ∧ L = [own z2 3 aJ 1 (kU sd u)]) := by
 refine rY Tryz.func66 rfl aA w _ rfl _ rfl _ 89 _ 15 rfl hg _ _ h hoff trivial _ _ rfl rfl ?_
 refine CaseB.mk (fun g1 => ?_) (fun g1 => ?_)
 · have hge : 64 ≤ sd.length := by have g' := of_decide_eq_true g1; omega
   rw [kU, if_pos hge, decide_eq_true hge, Bool.or_true]
   exact vH [0] ⟨rfl, z, rfl, rfl⟩ rfl rfl z144 rfl ⟨rfl, trivial⟩ (fun _ => rfl)
 have hge : ¬ 64 ≤ sd.length := by have g' := of_decide_eq_false g1; omega
 rw [kU, if_neg hge, decide_eq_false hge, Bool.or_false]
 refine AllSl.mk fun z1 => ?_
 refine cD aE aA (xs := sd) (ys := [u]) rfl rfl rfl rfl rfl rfl rfl rfl rfl (by decide) ⟨rfl, rfl⟩ z39 z35 z43 z43 (fun z2 => ?_)
 exact vH [0] ⟨rfl, z2, rfl, rfl⟩ rfl rfl z144 rfl ⟨rfl, trivial⟩ (fun _ => rfl)
def cC (p : Prog) (s : State) (t : Int) (b : Bool) : State := if b = true then onM p [t] s else bE s t 1
theorem qF (g n m : Nat) (P : ProgH) (y : StateH) (sd : Value) (full : Bool) (t : Int) (b : Bool) (s : State) (w : World) (hg : Blk w g 89 (xK P y n m sd full))
   (h : AtG w [own y.h0 3 aJ 1 s.places, own y.h1 3 aJ 1 s.status] [slo P.h4 kP 1 P.threads])
   (hoff : ∀ f ∈ [own y.h0 3 aJ 1 s.places, own y.h1 3 aJ 1 s.status] ++ [slo P.h4 kP 1 P.threads], ∀ b, f.foot b → b ≠ g)
   (h1 : s.places.length = n) (h2 : s.status.length = m) (hm : n = m) (hn : P.threads.length = n) (hw : 0 ≤ t ∧ t < n) (hp : ∀ a ∈ s.places, 0 ≤ a ∧ a ≤ 100) (hn4 : n ≤ 100) :
   Calls Tryz.prog 69 #[.pointer (some ⟨g, 0, none⟩), .int .i64 t, .bool b] w (vG w g 89 15 [own y.h0 3 aJ 1 s.places, own y.h1 3 aJ 1 s.status]
     fun v cs L => v = .tuple #[] ∧ cs = xK P y n m sd full ∧ L = [own y.h0 3 aJ 1 (cC P.pure s t b).places, own y.h1 3 aJ 1 (cC P.pure s t b).status]) := by
 refine rY Tryz.func69 rfl aA w _ rfl _ rfl _ 89 _ 15 rfl hg _ _ h hoff ⟨rfl, rfl, trivial⟩ _ _ rfl rfl ?_
 refine CaseB.mk (fun g1 => ?_) (fun g1 => ?_)
 · rw [cC, if_pos g1]
   refine AllSl.mk fun z => ?_
   refine cF _ [1, 2] (G := [_, _]) rT rfl rfl rfl rfl ⟨rfl, rfl⟩ rfl rfl ⟨rfl, rfl, trivial⟩ ⟨rfl, rfl, rfl, rfl, trivial⟩ (fun A w ga hga hW hblk => (jU ga n m P y sd full z [t] s w hblk (hW.atG [1, 2] (G := [_, _]) ⟨rfl, rfl, trivial⟩ rfl ⟨rfl, rfl, rfl, rfl, trivial⟩ [3, 0] (Fo := [_, _]) z142 rfl) (hW.atG_off z103 hga (ix := [1, 2]) (G := [_, _]) ⟨rfl, rfl, trivial⟩ (jx := [3, 0]) (Fo := [_, _]) z142) h1 h2 hm hn (fun x hx => by simp at hx; rw [hx]; exact hw) (by simp) hp hn4)) ?_
   rintro v cs L ⟨rfl, rfl, rfl⟩
   exact vH [0, 1] ⟨rfl, rfl, rfl⟩ rfl rfl z137 rfl ⟨rfl, rfl, trivial⟩ (fun _ => rfl)
 · have hb : ¬ b = true := by rw [g1]; decide
   rw [cC, if_neg hb]
   obtain ⟨τ, rfl⟩ : ∃ τ : Nat, t = (τ : Int) := ⟨_, (Int.toNat_of_nonneg hw.1).symm⟩
   refine cP aE 1 aA rfl rfl rfl rfl rfl ⟨rfl, rfl⟩ rfl h2.symm τ rfl (by omega) (fun g1 hg1 => ?_)
   refine bS aE 1 aA rfl rfl rfl rfl rfl rfl rfl rfl hg1 τ 0 1 rfl (by omega) rfl [.int .i64 1] (fun _ => rfl) rfl ?_
   exact vH [1, 0] ⟨rfl, rfl, rfl⟩ rfl rfl z137 rfl ⟨rfl, rfl, trivial⟩ (fun _ => rfl)
theorem qG (p : Prog) (who : List Int) (s : State) : (onM p who s).said = s.said := by
 obtain ⟨pl, st, h, _⟩ := oI p who s
 rw [h]
theorem kZ {β : Type} (k u : Int) (x : β) : aN [(k, x)] u = if k = u then [x] else [] := by
 by_cases h : k = u <;> simp [aN, h]
theorem bC {α β : Type} {g : α → Int} {h : α → β} {xs : List α} {u : Int} : aN (xs.map fun x => (g x, h x)) u = [] ↔ u ∉ xs.map g := by
 rw [oH]
 constructor
 · intro h1 h2
   obtain ⟨x, hx, rfl⟩ := List.mem_map.1 h2
   exact h1 _ (List.mem_map.2 ⟨x, hx, rfl⟩) rfl
 · intro h1 e he h2
   obtain ⟨x, hx, rfl⟩ := List.mem_map.1 he
   exact h1 (List.mem_map.2 ⟨x, hx, h2⟩)
theorem xL {α β : Type} (g : α → Int) (h : α → β) (xs : List α) (n : Nat) (nd : (xs.map g).Nodup) :
   (∀ u ∈ (xs.take n).map g, aN (xs.map fun x => (g x, h x)) u ≠ [] ∧ aN ((xs.drop n).map fun x => (g x, h x)) u = []) ∧
   (∀ u, u ∉ (xs.take n).map g → aN ((xs.drop n).map fun x => (g x, h x)) u = aN (xs.map fun x => (g x, h x)) u) := by
 have e : xs.map g = (xs.take n).map g ++ (xs.drop n).map g := by rw [← List.map_append, List.take_append_drop]
 have e2 : (xs.map fun x => (g x, h x)) = ((xs.take n).map fun x => (g x, h x)) ++ (xs.drop n).map fun x => (g x, h x) := by rw [← List.map_append, List.take_append_drop]
 rw [e, List.nodup_append] at nd
 refine ⟨fun u hu => ⟨fun h0 => ?_, bC.2 fun h2 => nd.2.2 u hu u h2 rfl⟩, fun u hu => ?_⟩
 · rw [bC, e] at h0
   exact h0 (List.mem_append_left _ hu)
 · rw [e2, dL, bC.2 hu]; rfl
theorem fS {xs : List Int} (h : bA xs = true) : xs.Nodup := by
 simp only [bA, decide_eq_true_eq] at h
 exact h.1
theorem kM0 {p : Prog} {s : State} {k : Nat} {ops : List Op} {a st : Int} {op : Op} (r : Rdy p s k ops a st op) (hk : op.kind = 1) (hs : s.said.length + 1 ≤ 64) : Fits p (onM p [(k : Int)] (kF s op.arg)) := by
 have hv : aV op.arg = true := by
   have h := r.ok.2.2.2.2
   rw [Prog.argOk, if_neg (by omega), if_neg (by omega), if_pos (by omega)] at h
   exact h
 exact r.onFits (s1 := kF s op.arg) (who := []) (fx := []) (fx' := []) (r.ft.shared.of rfl rfl rfl rfl rfl) rfl rfl rfl (by simpa [kF] using hs)
   (fun v h => by
     rcases List.mem_append.1 h with h | h
     · exact r.ft.said v h
     · simp at h; rw [h]; exact hv)
   (Swap.refl _) (fun _ _ => rfl) (r.own0 (by omega)) (by simp) (fun u hu => by simp at hu) (fun _ _ _ => rfl) rfl
theorem Rdy.sem {p : Prog} {s : State} {k : Nat} {ops : List Op} {a st : Int} {op : Op} (r : Rdy p s k ops a st op) (hk : op.kind = 2 ∨ op.kind = 3) :
   ∃ x, s.sems[op.on.toNat]? = some x ∧ zG s op = x ∧ SemOk x ∧ 1 ≤ op.arg ∧ op.arg ≤ x.limit ∧ ((op.on.toNat : Nat) : Int) = op.on := by
 obtain ⟨_, _, o0, o1, h5⟩ := r.ok
 rw [Prog.argOk, if_pos hk] at h5
 rw [Prog.shared, if_neg (by omega), if_pos hk, ← r.ft.lsems] at o1
 have hi : op.on.toNat < s.sems.length := by omega
 have hx : s.sems[op.on.toNat]? = some s.sems[op.on.toNat] := List.getElem?_eq_getElem hi
 obtain ⟨g1, g2⟩ := r.ft.sems _ _ hx
 rw [List.getD_eq_getElem?_getD, g2] at h5
 exact ⟨_, hx, by rw [zG, List.getD_eq_getElem?_getD, hx]; rfl, g1, h5.1, h5.2, by omega⟩
theorem Rdy.once {p : Prog} {s : State} {k : Nat} {ops : List Op} {a st : Int} {op : Op} (r : Rdy p s k ops a st op) (hk : op.kind = 4) :
   ∃ x, s.onces[op.on.toNat]? = some x ∧ pB s op = x ∧ eI x ∧ aV op.arg = true ∧ ((op.on.toNat : Nat) : Int) = op.on := by
 obtain ⟨_, _, o0, o1, h5⟩ := r.ok
 rw [Prog.argOk, if_neg (by omega), if_neg (by omega), if_pos (by omega)] at h5
 rw [Prog.shared, if_neg (by omega), if_neg (by omega), if_pos hk] at o1
 have hl := r.ft.lonces
 have hi : op.on.toNat < s.onces.length := by omega
 have hx : s.onces[op.on.toNat]? = some s.onces[op.on.toNat] := List.getElem?_eq_getElem hi
 exact ⟨_, hx, by rw [pB, List.getD_eq_getElem?_getD, hx]; rfl, r.ft.onces _ (List.getElem_mem hi), h5, by omega⟩
theorem Rdy.group {p : Prog} {s : State} {k : Nat} {ops : List Op} {a st : Int} {op : Op} (r : Rdy p s k ops a st op) (hk : op.kind = 5 ∨ op.kind = 6) :
   ∃ x, s.groups[op.on.toNat]? = some x ∧ qX s op = x ∧ fD x ∧ (op.kind = 5 → -9 ≤ op.arg ∧ op.arg ≤ 9) ∧ ((op.on.toNat : Nat) : Int) = op.on := by
 obtain ⟨_, _, o0, o1, h5⟩ := r.ok
 rw [Prog.shared, if_neg (by omega), if_neg (by omega), if_neg (by omega), if_pos hk, ← r.ft.lgroups] at o1
 have hi : op.on.toNat < s.groups.length := by omega
 have hx : s.groups[op.on.toNat]? = some s.groups[op.on.toNat] := List.getElem?_eq_getElem hi
 refine ⟨_, hx, by rw [qX, List.getD_eq_getElem?_getD, hx]; rfl, r.ft.groups _ (List.getElem_mem hi), fun e => ?_, by omega⟩
 rw [Prog.argOk, if_neg (by omega), if_pos e] at h5
 exact h5
theorem Rdy.barrier {p : Prog} {s : State} {k : Nat} {ops : List Op} {a st : Int} {op : Op} (r : Rdy p s k ops a st op) (hk : op.kind = 7) :
   ∃ x, s.barriers[op.on.toNat]? = some x ∧ iX s op = x ∧ dP x ∧ ((op.on.toNat : Nat) : Int) = op.on := by
 obtain ⟨_, _, o0, o1, _⟩ := r.ok
 rw [Prog.shared, if_neg (by omega), if_neg (by omega), if_neg (by omega), if_neg (by omega), if_pos hk, ← r.ft.lbarriers] at o1
 have hi : op.on.toNat < s.barriers.length := by omega
 have hx : s.barriers[op.on.toNat]? = some s.barriers[op.on.toNat] := List.getElem?_eq_getElem hi
 exact ⟨_, hx, by rw [iX, List.getD_eq_getElem?_getD, hx]; rfl, (r.ft.barriers _ _ hx).1, by omega⟩
theorem Rdy.chan {p : Prog} {s : State} {k : Nat} {ops : List Op} {a st : Int} {op : Op} (r : Rdy p s k ops a st op) (hk : 8 ≤ op.kind) :
   ∃ x, s.chans[op.on.toNat]? = some x ∧ gV s op = x ∧ x.Valid ∧ (op.kind = 8 → aV op.arg = true) ∧ ((op.on.toNat : Nat) : Int) = op.on := by
 obtain ⟨_, _, o0, o1, h5⟩ := r.ok
 rw [Prog.shared, if_neg (by omega), if_neg (by omega), if_neg (by omega), if_neg (by omega), if_neg (by omega), ← r.ft.lchans] at o1
 have hi : op.on.toNat < s.chans.length := by omega
 have hx : s.chans[op.on.toNat]? = some s.chans[op.on.toNat] := List.getElem?_eq_getElem hi
 refine ⟨_, hx, by rw [gV, List.getD_eq_getElem?_getD, hx]; rfl, by have := (r.ft.chans _ _ hx).1; simpa [Chan.valid] using this, fun e => ?_, by omega⟩
 rw [Prog.argOk, if_neg (by omega), if_neg (by omega), if_pos (by omega)] at h5
 exact h5
theorem aV0 {p : Prog} {s : State} {k : Nat} {ops : List Op} {a st : Int} {op : Op} (r : Rdy p s k ops a st op) (hk : op.kind = 2) : Fits p (kA p s k op) := by
 obtain ⟨x, hx, hxa, ok, a1, a2, hi⟩ := r.sem (.inl hk)
 have sw := fun x' => kX hx x'
 have hn : (k : Int) ∉ x.queue.map (·.t) := bC.1 ((sw x).none r.ev)
 rw [kA, hxa, Sem.acquire]
 by_cases hc : x.queue = [] ∧ op.arg ≤ x.free
 · rw [if_pos hc]
   simp only [if_true]
   have := ok.fl
   exact r.onFits (s1 := setSem s op _) (who := []) (r.ft.shared.setSem (s := s) hx (x' := { x with free := x.free - op.arg }) ⟨ok.l1, ok.l9, by show 0 ≤ x.free - op.arg; omega, by show x.free - op.arg ≤ x.limit; omega, ok.q6, ok.cnt, ok.dis, fun w hw => by rw [show ({ x with free := x.free - op.arg } : Sem).queue = [] from hc.1] at hw; simp at hw⟩ rfl) rfl rfl rfl r.ft.lsaid r.ft.said
     (sw _) (fun _ _ => rfl) (r.own0 (by omega)) (by simp) (fun u hu => by simp at hu) (fun _ _ _ => rfl) ((sw x).none r.ev)
 · rw [if_neg hc]
   simp only [Bool.false_eq_true, if_false]
   have hok : SemOk { x with queue := x.queue ++ [⟨(k : Int), op.arg⟩] } := by
     have hdis : bA ((x.queue ++ [(⟨(k : Int), op.arg⟩ : Waiter)]).map (·.t)) = true := by
       rw [List.map_append]; exact hY ok.dis r.thr hn
     refine ⟨ok.l1, ok.l9, ok.f0, ok.fl, by have := cW hdis; simpa using this, fun w hw => ?_, hdis, fun w hw => ?_⟩
     · rcases List.mem_append.1 hw with hw | hw
       · exact ok.cnt w hw
       · simp at hw; subst hw; exact ⟨a1, a2⟩
     · by_cases h0 : x.queue = []
       · have h1 : ¬ op.arg ≤ x.free := fun h => hc ⟨h0, h⟩
         simp [h0] at hw
         subst hw
         show x.free < op.arg
         omega
       · obtain ⟨y, q, hq⟩ := List.exists_cons_of_ne_nil h0
         refine ok.hd w ?_
         rw [hq] at hw ⊢
         simpa using hw
   have hadd : ∀ u, aN (dH op.on.toNat { x with queue := x.queue ++ [⟨(k : Int), op.arg⟩] }) u = aN (dH op.on.toNat x) u ++ (if (k : Int) = u then [⟨2, op.on, op.arg⟩] else []) := fun u => by
     simp only [dH, List.map_append, dL, List.map_cons, List.map_nil, kZ, hi]
   refine r.waitFits (s1 := setSem s op _) (b := 1) (r.ft.shared.setSem (s := s) hx hok rfl) rfl rfl rfl rfl (sw _) (fun _ _ => rfl) (fun u hu => ?_) (.inl ⟨rfl, ?_, r.own0 (by omega)⟩)
   · rw [hadd, if_neg (fun h => hu h.symm), List.append_nil]
   · rw [hadd, if_pos rfl, (sw x).none r.ev, kE, if_pos (by omega), hk]; rfl
theorem tK : ∀ (q : List Waiter) (f : Int), 0 ≤ f → (∀ w ∈ q, 1 ≤ w.n) → ∃ n, (dY f q).2.2 = q.drop n ∧ (dY f q).2.1 = (q.take n).map (·.t) ∧ 0 ≤ (dY f q).1 ∧ (dY f q).1 ≤ f ∧ ∀ w, (q.drop n)[0]? = some w → (dY f q).1 < w.n
 | [], f, h0, _ => ⟨0, rfl, rfl, h0, by simp [dY], by simp⟩
 | w :: q, f, h0, hc => by
   have h1 := hc w (by simp)
   rw [dY]
   by_cases e : w.n ≤ f
   · rw [if_pos e]
     obtain ⟨n, i1, i2, i3, i4, i5⟩ := tK q (f - w.n) (by omega) (fun y hy => hc y (List.mem_cons_of_mem _ hy))
     exact ⟨n + 1, by simpa using i1, by simp [i2], i3, by show (dY (f - w.n) q).1 ≤ f; omega, by simpa using i5⟩
   · rw [if_neg e]
     exact ⟨0, rfl, rfl, h0, Int.le_refl _, fun y hy => by simp at hy; subst hy; show f < w.n; omega⟩
theorem aW0 {p : Prog} {s : State} {k : Nat} {ops : List Op} {a st : Int} {op : Op} (r : Rdy p s k ops a st op) (hk : op.kind = 3) : Fits p (iY p s k op) := by
 obtain ⟨x, hx, hxa, ok, a1, a2, hi⟩ := r.sem (.inr hk)
 have sw := fun x' => kX hx x'
 rw [iY, hxa, Sem.release]
 by_cases hc : op.arg ≤ x.limit - x.free
 · rw [if_pos hc]
   have f0 := ok.f0
   obtain ⟨n, i1, i2, i3, i4, i5⟩ := tK x.queue (x.free + op.arg) (by omega) (fun w hw => (ok.cnt w hw).1)
   simp only [i1, i2]
   have nd := fS ok.dis
   obtain ⟨t1, t2⟩ := xL (·.t) (fun w : Waiter => (⟨2, (op.on.toNat : Int), w.n⟩ : Waiting)) x.queue n nd
   have hsub : ((x.queue.drop n).map (·.t)).Sublist (x.queue.map (·.t)) := (List.drop_sublist _ _).map _
   refine r.onFits (s1 := setSem s op _) (who := (x.queue.take n).map (·.t)) (r.ft.shared.setSem (s := s) hx (x' := ⟨(dY (x.free + op.arg) x.queue).1, x.limit, x.queue.drop n⟩) ⟨ok.l1, ok.l9, i3, by show (dY (x.free + op.arg) x.queue).1 ≤ x.limit; omega, by have := ok.q6; show (x.queue.drop n).length ≤ 6; rw [List.length_drop]; omega, fun w hw => ok.cnt w (List.mem_of_mem_drop hw), oZ hsub ok.dis, i5⟩ rfl) rfl rfl rfl r.ft.lsaid r.ft.said
     (sw _) (fun _ _ => rfl) (r.own0 (by omega)) (nd.sublist ((List.take_sublist _ _).map _)) t1 (fun u hu _ => t2 u hu) ?_
   have h0 := (sw x).none r.ev
   by_cases hm : (k : Int) ∈ (x.queue.take n).map (·.t)
   · exact (t1 _ hm).2
   · exact (t2 _ hm).trans h0
 · rw [if_neg hc]
   exact r.ft.fault (by omega) (by omega)
theorem kN0 {p : Prog} {s : State} {k : Nat} {ops : List Op} {a st : Int} {op : Op} (r : Rdy p s k ops a st op) (hk : op.kind = 5) : Fits p (tJ p s k op) := by
 obtain ⟨x, hx, hxa, ⟨ok1, ok2, ok3⟩, ha, hi⟩ := r.group (.inl hk)
 have sw := fun x' => iN hx x'
 have nd := fS ok2
 rw [tJ, hxa, Group.add]
 by_cases hc : aV (x.count + op.arg) = true
 · rw [if_pos hc]
   by_cases h0 : x.count + op.arg = 0
   · rw [if_pos h0]
     obtain ⟨t1, t2⟩ := xL (fun t : Int => t) (fun t : Int => (⟨6, (op.on.toNat : Int), 0⟩ : Waiting)) x.waits x.waits.length (by simpa using nd)
     simp only [List.take_length, List.drop_length, List.map_id'] at t1 t2
     refine r.onFits (s1 := setGroup s op ⟨0, []⟩) (who := x.waits) (r.ft.shared.setGroup (s := s) ⟨by decide, by decide, .inr rfl⟩) rfl rfl rfl r.ft.lsaid r.ft.said
       (sw _) (fun _ _ => rfl) (r.own0 (by omega)) nd t1 (fun u hu _ => t2 u hu) rfl
   · rw [if_neg h0]
     have hv : 0 < x.count + op.arg := by simp [aV] at hc; omega
     exact r.onFits (s1 := setGroup s op ⟨x.count + op.arg, x.waits⟩) (who := []) (r.ft.shared.setGroup (s := s) ⟨hc, ok2, .inl hv⟩) rfl rfl rfl r.ft.lsaid r.ft.said
       (sw _) (fun _ _ => rfl) (r.own0 (by omega)) (by simp) (fun u hu => by simp at hu) (fun _ _ _ => rfl) ((sw x).none r.ev)
 · rw [if_neg hc]
   exact r.ft.fault (by omega) (by omega)
theorem hO0 {p : Prog} {s : State} {k : Nat} {ops : List Op} {a st : Int} {op : Op} (r : Rdy p s k ops a st op) (hk : op.kind = 6) : Fits p (qD p s k op) := by
 obtain ⟨x, hx, hxa, ⟨ok1, ok2, ok3⟩, ha, hi⟩ := r.group (.inr hk)
 have sw := fun x' => iN hx x'
 have hn : (k : Int) ∉ x.waits := by
   have h := (bC (g := fun t : Int => t)).1 ((sw x).none r.ev)
   simpa using h
 rw [qD, hxa, Group.wait]
 by_cases hc : x.count = 0
 · rw [if_pos hc]
   simp only [if_true]
   have hw : x.waits = [] := by
     rcases ok3 with h | h
     · omega
     · exact h
   have he : cT op.on.toNat x = [] := by simp [cT, hw]
   exact r.onFits (s1 := setGroup s op ⟨0, []⟩) (who := []) (r.ft.shared.setGroup (s := s) ⟨by decide, by decide, .inr rfl⟩) rfl rfl rfl r.ft.lsaid r.ft.said
     (sw _) (fun _ _ => rfl) (r.own0 (by omega)) (by simp) (fun u hu => by simp at hu) (fun _ _ _ => by rw [he]; rfl) rfl
 · rw [if_neg hc]
   simp only [Bool.false_eq_true, if_false]
   have hadd : ∀ u, aN (cT op.on.toNat ⟨x.count, x.waits ++ [(k : Int)]⟩) u = aN (cT op.on.toNat x) u ++ (if (k : Int) = u then [⟨6, op.on, 0⟩] else []) := fun u => by
     simp only [cT, List.map_append, dL, List.map_cons, List.map_nil, kZ, hi]
   have hv : 0 < x.count := by simp [aV] at ok1; omega
   refine r.waitFits (s1 := setGroup s op _) (b := 1) (r.ft.shared.setGroup (s := s) ⟨ok1, hY ok2 r.thr hn, .inl hv⟩) rfl rfl rfl rfl (sw _) (fun _ _ => rfl) (fun u hu => ?_) (.inl ⟨rfl, ?_, r.own0 (by omega)⟩)
   · rw [hadd, if_neg (fun h => hu h.symm), List.append_nil]
   · rw [hadd, if_pos rfl, (sw x).none r.ev, kE, if_neg (by omega), hk]; rfl
theorem cT0 {p : Prog} {s : State} {k : Nat} {ops : List Op} {a st : Int} {op : Op} (r : Rdy p s k ops a st op) (hk : op.kind = 7) (hw : (iX s op).arrive k ≠ none) : Fits p (hJ p s k op) := by
 obtain ⟨x, hx, hxa, ⟨p1, p6, r0, r9, wl, dis⟩, hi⟩ := r.barrier hk
 have sw := fun x' => lF hx x'
 have nd := fS dis
 have hn : (k : Int) ∉ x.waits := by
   have h := (bC (g := fun t : Int => t)).1 ((sw x).none r.ev)
   simpa using h
 rw [hxa, Barrier.arrive] at hw
 rw [hJ, hxa, Barrier.arrive]
 by_cases hc : (x.waits.length : Int) + 1 < x.parties
 · rw [if_pos hc]
   simp only [if_true]
   have hadd : ∀ u, aN (cK op.on.toNat ⟨x.parties, x.round, x.waits ++ [(k : Int)]⟩) u = aN (cK op.on.toNat x) u ++ (if (k : Int) = u then [⟨7, op.on, 0⟩] else []) := fun u => by
     simp only [cK, List.map_append, dL, List.map_cons, List.map_nil, kZ, hi]
   refine r.waitFits (s1 := setBarrier s op _) (b := 1) (r.ft.shared.setBarrier (s := s) hx (x' := ⟨x.parties, x.round, x.waits ++ [(k : Int)]⟩) ⟨p1, p6, r0, r9, by simpa using hc, hY dis r.thr hn⟩ rfl) rfl rfl rfl rfl (sw _) (fun _ _ => rfl) (fun u hu => ?_) (.inl ⟨rfl, ?_, r.own0 (by omega)⟩)
   · rw [hadd, if_neg (fun h => hu h.symm), List.append_nil]
   · rw [hadd, if_pos rfl, (sw x).none r.ev, kE, if_neg (by omega), hk]; rfl
 · rw [if_neg hc] at hw ⊢
   by_cases h9 : x.round = 9999
   · rw [if_pos h9] at hw; exact (hw rfl).elim
   · rw [if_neg h9]
     have hne : x.waits ++ [(k : Int)] ≠ [] := by simp
     simp only [if_neg hne]
     obtain ⟨t1, t2⟩ := xL (fun t : Int => t) (fun t : Int => (⟨7, (op.on.toNat : Int), 0⟩ : Waiting)) x.waits x.waits.length (by simpa using nd)
     simp only [List.take_length, List.drop_length, List.map_id'] at t1 t2
     exact r.onFits (s1 := setBarrier s op ⟨x.parties, x.round + 1, []⟩) (who := x.waits) (r.ft.shared.setBarrier (s := s) hx ⟨p1, p6, by show 0 ≤ x.round + 1; omega, by show x.round + 1 ≤ 9999; omega, by show ((0 : Nat) : Int) < x.parties; omega, show bA [] = true by decide⟩ rfl) rfl rfl rfl r.ft.lsaid r.ft.said
       (sw _) (fun _ _ => rfl) (r.own0 (by omega)) nd t1 (fun u hu _ => t2 u hu) rfl
theorem hP0 {p : Prog} {s : State} {k : Nat} {ops : List Op} {a st : Int} {op : Op} (r : Rdy p s k ops a st op) (hk : op.kind = 4) : Fits p (kY p s k op) := by
 obtain ⟨x, hx, hxa, ok, hv, hi⟩ := r.once hk
 have sw := fun x' => pA hx x'
 have so := fun x' => kI0 hx x'
 have hn : (k : Int) ∉ x.waits := by
   have h := (bC (g := fun t : Int => t)).1 ((sw x).none r.ev)
   simpa using h
 have hst : s.status.getD (k : Int).toNat 0 = st := by rw [Int.toNat_natCast, List.getD_eq_getElem?_getD, r.h3]; rfl
 have own1 : ∀ (y : Once) (u : Int), y.state = 1 → aN (iC op.on.toNat y) u = if y.owner = u then [op.on] else [] := fun y u h => by
   rw [iC, if_pos h, kZ, hi]
 have own0 : ∀ (y : Once) (u : Int), y.state ≠ 1 → aN (iC op.on.toNat y) u = [] := fun y u h => by
   rw [iC, if_neg h]; rfl
 rw [kY, hxa, hst]
 by_cases h2 : st = 2
 · rw [if_pos h2]
   have hown : aN (cJ s) k = [op.on] := by
     rcases r.ow with ⟨e, _⟩ | ⟨_, _, e⟩
     · omega
     · exact e
   have hx1 : x.state = 1 ∧ x.owner = k := by
     have hm : op.on ∈ aN (cJ s) k := by rw [hown]; simp
     obtain ⟨j, y, hy, h1, h2, h3⟩ := iM.1 hm
     have e : op.on.toNat = j := by omega
     rw [← e, hx] at hy
     injection hy with hy
     subst hy
     exact ⟨h1, h2⟩
   have o1 := (qV hx1.1).1 ok
   have nd := fS o1.2.2.1
   obtain ⟨t1, t2⟩ := xL (fun t : Int => t) (fun t : Int => (⟨4, (op.on.toNat : Int), 0⟩ : Waiting)) x.waits x.waits.length (by simpa using nd)
   simp only [List.take_length, List.drop_length, List.map_id'] at t1 t2
   refine r.onFits (s1 := setOnce s op ⟨2, (k : Int), op.arg, []⟩) (who := x.waits) (r.ft.shared.setOnce (s := s) ((aR0 rfl).2 ⟨r.thr, hv, rfl⟩)) rfl rfl rfl r.ft.lsaid r.ft.said
     (sw _) (fun u hu => (so _).same ?_) ((so _).gone (u := (k : Int)) ?_ ?_ ?_) nd t1 (fun u hu _ => t2 u hu) rfl
   · rw [own0 _ _ (show (2 : Int) ≠ 1 by decide), own1 x u hx1.1, hx1.2, if_neg (fun h => hu h.symm)]
   · rw [own1 x _ hx1.1, hx1.2, if_pos rfl]; simp
   · exact own0 _ _ (show (2 : Int) ≠ 1 by decide)
   · rw [hown]; simp
 rw [if_neg h2]
 have hown : aN (cJ s) k = [] := by
   rcases r.ow with ⟨_, e⟩ | ⟨e, _⟩
   · exact e
   · exact (h2 e).elim
 rw [Once.enter]
 by_cases e0 : x.state = 0
 · simp only [if_pos e0, if_true]
   have o0 := (aQ0 e0).1 ok
   have hw : x.waits = [] := o0.2.2
   refine r.waitFits (s1 := setOnce s op ⟨1, (k : Int), 0, []⟩) (b := 2) (r.ft.shared.setOnce (s := s) ((qV rfl).2 ⟨r.thr, rfl, show bA [] = true by decide, by simp⟩)) rfl rfl rfl rfl (sw _) (fun u hu => (so _).same ?_) (fun u hu => ?_) (.inr ⟨rfl, rfl, hk, ?_⟩)
   · rw [own0 x u (by omega), own1 _ _ rfl, if_neg (fun h => hu h.symm)]
   · rw [show cR op.on.toNat x = [] by simp [cR, hw]]; rfl
   · exact ((so _).come hown).trans (by rw [own1 _ _ rfl, if_pos rfl])
 by_cases e1 : x.state = 1
 · simp only [if_neg e0, if_pos e1, if_true, if_neg (show ¬ (1 : Int) = 0 by decide)]
   have o1 := (qV e1).1 ok
   have hok : (k : Int) ≠ x.owner := fun e => by
     have h := (so x).none hown
     rw [own1 x _ e1, if_pos e.symm] at h
     cases h
   have hadd : ∀ u, aN (cR op.on.toNat { x with waits := x.waits ++ [(k : Int)] }) u = aN (cR op.on.toNat x) u ++ (if (k : Int) = u then [⟨4, op.on, 0⟩] else []) := fun u => by
     simp only [cR, List.map_append, dL, List.map_cons, List.map_nil, kZ, hi]
   have hsame : ∀ u, aN (iC op.on.toNat { x with waits := x.waits ++ [(k : Int)] }) u = aN (iC op.on.toNat x) u := fun u => rfl
   refine r.waitFits (s1 := setOnce s op { x with waits := x.waits ++ [(k : Int)] }) (b := 1) (r.ft.shared.setOnce (s := s) ((qV (m := { x with waits := x.waits ++ [(k : Int)] }) e1).2 ⟨o1.1, o1.2.1, hY o1.2.2.1 r.thr hn, ?_⟩)) rfl rfl rfl rfl (sw _) (fun u hu => (so _).same (hsame u)) (fun u hu => ?_) (.inl ⟨rfl, ?_, ((so _).same (hsame _)).trans hown⟩)
   · intro hm
     rcases List.mem_append.1 hm with hm | hm
     · exact o1.2.2.2 hm
     · simp at hm; exact hok hm.symm
   · rw [hadd, if_neg (fun h => hu h.symm), List.append_nil]
   · rw [hadd, if_pos rfl, (sw x).none r.ev, kE, if_neg (by omega), hk]; rfl
 simp only [if_neg e0, if_neg e1, if_neg (show ¬ (2 : Int) = 0 by decide), if_neg (show ¬ (2 : Int) = 1 by decide)]
 exact r.onFits (s1 := setOnce s op x) (who := []) (r.ft.shared.setOnce (s := s) ok) rfl rfl rfl r.ft.lsaid r.ft.said
   (sw x) (fun u hu => (so x).same rfl) (((so x).same rfl).trans hown) (by simp) (fun u hu => by simp at hu) (fun _ _ _ => rfl) ((sw x).none r.ev)
theorem lG (i : Nat) (x : Chan) (u : Int) : aN (dC i x) u = aN (x.senders.map fun l => (l.t, (⟨8, (i : Int), l.v⟩ : Waiting))) u ++ aN (x.getters.map fun t => (t, (⟨9, (i : Int), 0⟩ : Waiting))) u := by rw [dC, dL]
theorem nA {i : Nat} {x : Chan} {u : Int} (h : aN (dC i x) u = []) : u ∉ x.threads := by
 rw [lG, List.append_eq_nil_iff] at h
 intro hm
 rcases List.mem_append.1 hm with hm | hm
 · exact (bC (g := Letter.t)).1 h.1 hm
 · exact (bC (g := fun t : Int => t)).1 h.2 (by simpa using hm)
theorem tL {x : Chan} (h : x.Valid) : (x.senders.map (·.t)).Nodup ∧ x.getters.Nodup := by
 have := fS h.di
 rw [Chan.threads, List.nodup_append] at this
 exact ⟨this.1, this.2.1⟩
theorem nB {x : Chan} (h : x.Valid) : x.valid = true := by rw [Chan.valid, decide_eq_true h]
theorem hQ0 {p : Prog} {s : State} {k : Nat} {ops : List Op} {a st : Int} {op : Op} (r : Rdy p s k ops a st op) (hk : op.kind = 8) (hl : (lX p s k op).said.length ≤ 64) : Fits p (lX p s k op) := by
 obtain ⟨x, hx, hxa, hv, hval, hi⟩ := r.chan (by omega)
 have sw := fun x' => fA hx x'
 have h0 := (sw x).none r.ev
 have hn := nA h0
 have nd := tL hv
 rw [lX, hxa] at hl ⊢
 by_cases hc : (x.send k op.arg).2.2.2 = true
 · have hv' := eI0 hc
   obtain ⟨_, c1, c2, c3, c4⟩ := aT0 hc
   rw [if_pos hc] at hl ⊢
   have hsd : x.send k op.arg = if h : 0 < x.getters.length then ({ x with getters := x.getters.drop 1 }, [x.getters[0]], true, true) else if (x.items.length : Int) < x.room then ({ x with items := x.items ++ [op.arg] }, [], true, true) else ({ x with senders := x.senders ++ [⟨(k : Int), op.arg⟩] }, [], false, true) := by
     rw [Chan.send, if_pos ⟨hv, c1, c2, c3, c4⟩]
   rw [hsd] at hv' hl ⊢
   by_cases hg : 0 < x.getters.length
   · simp only [dif_pos hg, if_true] at hv' hl ⊢
     rw [if_neg (by simp)] at hl ⊢
     have hs : x.senders = [] := Classical.byContradiction fun hne => by rw [(hv.se hne).2.1] at hg; simp at hg
     obtain ⟨t1, t2⟩ := xL (fun t : Int => t) (fun t : Int => (⟨9, (op.on.toNat : Int), 0⟩ : Waiting)) x.getters 1 (by simpa using nd.2)
     have e1 : x.getters.take 1 = [x.getters[0]] := kF0 hg
     simp only [e1, List.map_id'] at t1 t2
     have fx : ∀ u, aN (dC op.on.toNat x) u = aN (x.getters.map fun t => (t, (⟨9, (op.on.toNat : Int), 0⟩ : Waiting))) u := fun u => by rw [lG, hs]; rfl
     have fx' : ∀ u, aN (dC op.on.toNat { x with getters := x.getters.drop 1 }) u = aN ((x.getters.drop 1).map fun t => (t, (⟨9, (op.on.toNat : Int), 0⟩ : Waiting))) u := fun u => by rw [lG]; show aN (x.senders.map _) u ++ _ = _; rw [hs]; rfl
     rw [qG] at hl
     refine r.onFits (s1 := kF (setChan s op { x with getters := x.getters.drop 1 }) op.arg) (who := [x.getters[0]]) ((r.ft.shared.setChan (s := s) hx (nB hv') rfl).of rfl rfl rfl rfl rfl) rfl rfl rfl hl
       (fun v h => by
         rcases List.mem_append.1 h with h | h
         · exact r.ft.said v h
         · simp at h; rw [h]; exact hval hk)
       (sw _) (fun _ _ => rfl) (r.own0 (by omega)) (by simp) (fun u hu => by rw [fx, fx']; exact t1 u hu) (fun u hu _ => by rw [fx, fx']; exact t2 u hu) ?_
     rw [fx']
     rw [fx] at h0
     by_cases hm : (k : Int) ∈ [x.getters[0]]
     · exact (t1 _ hm).2
     · exact (t2 _ hm).trans h0
   · simp only [dif_neg hg] at hv' hl ⊢
     by_cases hr : (x.items.length : Int) < x.room
     · simp only [if_pos hr, if_true] at hv' hl ⊢
       exact r.onFits (s1 := setChan s op { x with items := x.items ++ [op.arg] }) (who := []) (r.ft.shared.setChan (s := s) hx (nB hv') rfl) rfl rfl rfl r.ft.lsaid r.ft.said
         (sw _) (fun _ _ => rfl) (r.own0 (by omega)) (by simp) (fun u hu => by simp at hu) (fun _ _ _ => rfl) h0
     · simp only [if_neg hr, Bool.false_eq_true, if_false] at hv' hl ⊢
       have hadd : ∀ u, aN (dC op.on.toNat { x with senders := x.senders ++ [⟨(k : Int), op.arg⟩] }) u = aN (dC op.on.toNat x) u ++ (if (k : Int) = u then [⟨8, op.on, op.arg⟩] else []) := fun u => by
         have hg' : x.getters = [] := by simpa using hg
         simp only [dC, hg', List.map_append, dL, List.map_cons, List.map_nil, kZ, hi, List.append_nil]
       refine r.waitFits (s1 := setChan s op _) (b := 1) (r.ft.shared.setChan (s := s) hx (nB hv') rfl) rfl rfl rfl rfl (sw _) (fun _ _ => rfl) (fun u hu => ?_) (.inl ⟨rfl, ?_, r.own0 (by omega)⟩)
       · rw [hadd, if_neg (fun h => hu h.symm), List.append_nil]
       · rw [hadd, if_pos rfl, h0, kE, if_pos (by omega), hk]; rfl
 · rw [if_neg hc]
   exact r.ft.fault (by omega) (by omega)
theorem kO0 {p : Prog} {s : State} {k : Nat} {ops : List Op} {a st : Int} {op : Op} (r : Rdy p s k ops a st op) (hk : op.kind = 9) (hl : (rN p s k op).said.length ≤ 64) : Fits p (rN p s k op) := by
 obtain ⟨x, hx, hxa, hv, hval, hi⟩ := r.chan (by omega)
 have sw := fun x' => fA hx x'
 have h0 := (sw x).none r.ev
 have hn := nA h0
 have nd := tL hv
 have hok : x.Valid ∧ aZ (k : Int) = true ∧ ¬ (k : Int) ∈ x.threads := ⟨hv, r.thr, hn⟩
 have hgt : (x.get k).2.2.2.2 = true := by
   rw [Chan.get, if_pos hok]
   split
   · rfl
   · split <;> rfl
 have hv' := hJ0 hgt
 have gv : ∀ y ∈ x.gItems, aV y = true := fun y hy => by
   rcases List.mem_append.1 hy with hy | hy
   · exact hv.iv y hy
   · obtain ⟨l, hl, rfl⟩ := List.mem_map.1 hy
     exact hv.sv l (List.mem_of_mem_take hl)
 rw [rN, hxa] at hl ⊢
 have hsd : x.get k = if 0 < x.gItems.length then ({ x with items := x.gItems.drop 1, senders := x.senders.drop 1 }, x.gItems.headD 0, 1, x.gWho, true) else if x.closed = true then ({ x with items := [], senders := [] }, 0, 2, [], true) else ({ x with items := [], senders := [], getters := x.getters ++ [(k : Int)] }, 0, 0, [], true) := by
   rw [Chan.get, if_pos hok]
 rw [hsd] at hv' hl ⊢
 by_cases hc : 0 < x.gItems.length
 · simp only [if_pos hc] at hv' hl ⊢
   rw [if_neg (by decide), if_pos trivial] at hl ⊢
   rw [qG] at hl
   obtain ⟨t1, t2⟩ := xL Letter.t (fun l : Letter => (⟨8, (op.on.toNat : Int), l.v⟩ : Waiting)) x.senders 1 nd.1
   have hgw : x.gWho = (x.senders.take 1).map Letter.t := rfl
   rw [← hgw] at t1 t2
   have fx' : ∀ (its : List Int) u, aN (dC op.on.toNat { x with items := its, senders := x.senders.drop 1 }) u = aN ((x.senders.drop 1).map fun l => (l.t, (⟨8, (op.on.toNat : Int), l.v⟩ : Waiting))) u ++ aN (x.getters.map fun t => (t, (⟨9, (op.on.toNat : Int), 0⟩ : Waiting))) u := fun its u => lG _ _ _
   have hg0 : ∀ u ∈ x.gWho, aN (x.getters.map fun t => (t, (⟨9, (op.on.toNat : Int), 0⟩ : Waiting))) u = [] := fun u hu => by
     by_cases hs : x.senders = []
     · rw [hgw, hs] at hu; simp at hu
     · rw [(hv.se hs).2.1]; rfl
   refine r.onFits (s1 := kF (setChan s op { x with items := x.gItems.drop 1, senders := x.senders.drop 1 }) (x.gItems.headD 0)) (who := x.gWho) ((r.ft.shared.setChan (s := s) hx (nB hv') rfl).of rfl rfl rfl rfl rfl) rfl rfl rfl hl
     (fun v h => by
       rcases List.mem_append.1 h with h | h
       · exact r.ft.said v h
       · simp only [List.mem_singleton] at h
         rw [h, cN0 hc]; exact gv _ (List.getElem_mem hc))
     (sw _) (fun _ _ => rfl) (r.own0 (by omega)) (nd.1.sublist ((List.take_sublist _ _).map _)) (fun u hu => ⟨fun h => (t1 u hu).1 ?_, by rw [fx', (t1 u hu).2, hg0 u hu]; rfl⟩) (fun u hu _ => by rw [fx', lG, t2 u hu]) ?_
   · rw [lG, List.append_eq_nil_iff] at h; exact h.1
   · rw [lG, List.append_eq_nil_iff] at h0
     rw [fx', h0.2, List.append_nil]
     by_cases hm : (k : Int) ∈ x.gWho
     · exact (t1 _ hm).2
     · exact (t2 _ hm).trans h0.1
 · simp only [if_neg hc] at hv' hl ⊢
   have hI : x.items = [] ∧ x.senders = [] := by
     simp [Chan.gItems] at hc
     refine ⟨hc.1, ?_⟩
     cases hs : x.senders with
     | nil => rfl
     | cons a r => simp [hs] at hc
   by_cases hcl : x.closed = true
   · simp only [if_pos hcl] at hv' hl ⊢
     rw [if_neg (by decide), if_neg (by decide)] at hl ⊢
     have fx : ∀ u, aN (dC op.on.toNat { x with items := [], senders := [] }) u = aN (dC op.on.toNat x) u := fun u => by
       rw [lG, lG, hI.2]
     exact r.onFits (s1 := setChan s op { x with items := [], senders := [] }) (who := []) (r.ft.shared.setChan (s := s) hx (nB hv') rfl) rfl rfl rfl r.ft.lsaid r.ft.said
       (sw _) (fun _ _ => rfl) (r.own0 (by omega)) (by simp) (fun u hu => by simp at hu) (fun u _ _ => fx u) ((fx _).trans h0)
   · simp only [if_neg hcl] at hv' hl ⊢
     rw [if_pos trivial] at hl ⊢
     have hadd : ∀ u, aN (dC op.on.toNat { x with items := [], senders := [], getters := x.getters ++ [(k : Int)] }) u = aN (dC op.on.toNat x) u ++ (if (k : Int) = u then [⟨9, op.on, 0⟩] else []) := fun u => by
       simp only [dC, hI.2, List.map_append, dL, List.map_cons, List.map_nil, kZ, hi, List.append_assoc]
     refine r.waitFits (s1 := setChan s op _) (b := 1) (r.ft.shared.setChan (s := s) hx (nB hv') rfl) rfl rfl rfl rfl (sw _) (fun _ _ => rfl) (fun u hu => ?_) (.inl ⟨rfl, ?_, r.own0 (by omega)⟩)
     · rw [hadd, if_neg (fun h => hu h.symm), List.append_nil]
     · rw [hadd, if_pos rfl, h0, kE, if_neg (by omega), hk]; rfl
theorem eK0 {p : Prog} {s : State} {k : Nat} {ops : List Op} {a st : Int} {op : Op} (r : Rdy p s k ops a st op) (hk : op.kind = 10) : Fits p (mF p s k op) := by
 obtain ⟨x, hx, hxa, hv, hval, hi⟩ := r.chan (by omega)
 have sw := fun x' => fA hx x'
 have h0 := (sw x).none r.ev
 have nd := tL hv
 rw [mF, hxa]
 by_cases hc : x.close.2.2 = true
 · have hv' := cO0 hc
   obtain ⟨_, c1, c2⟩ := xF hc
   rw [if_pos hc]
   have hsd : x.close = ({ x with senders := [], getters := [], closed := true }, x.getters, true) := by
     rw [Chan.close, if_pos ⟨hv, c1, c2⟩]
   rw [hsd] at hv' ⊢
   obtain ⟨t1, t2⟩ := xL (fun t : Int => t) (fun t : Int => (⟨9, (op.on.toNat : Int), 0⟩ : Waiting)) x.getters x.getters.length (by simpa using nd.2)
   simp only [List.take_length, List.drop_length, List.map_id'] at t1 t2
   have fx : ∀ u, aN (dC op.on.toNat x) u = aN (x.getters.map fun t => (t, (⟨9, (op.on.toNat : Int), 0⟩ : Waiting))) u := fun u => by rw [lG, c2]; rfl
   exact r.onFits (s1 := setChan s op { x with senders := [], getters := [], closed := true }) (who := x.getters) (r.ft.shared.setChan (s := s) hx (nB hv') rfl) rfl rfl rfl r.ft.lsaid r.ft.said
     (sw _) (fun _ _ => rfl) (r.own0 (by omega)) nd.2 (fun u hu => ⟨by rw [fx]; exact (t1 u hu).1, rfl⟩) (fun u hu _ => by rw [fx]; exact t2 u hu) rfl
 · rw [if_neg hc]
   exact r.ft.fault (by omega) (by omega)
theorem zJ {p : Prog} {s : State} {t : Int} (ft : Fits p s) (h : t ∈ cG s) (hl : (doM p s t).said.length ≤ 64) (hw : ¬ sD p s t) : Fits p (doM p s t) := by
 obtain ⟨k, ops, a, st, op, rfl, r⟩ := rdy ft h
 rw [sD, r.at_] at hw
 rw [doM, r.at_, dD] at hl ⊢
 by_cases k1 : op.kind = 1
 · simp only [if_pos k1] at hl ⊢
   rw [qG] at hl
   exact kM0 r k1 (by simpa [kF] using hl)
 by_cases k2 : op.kind = 2
 · simp only [if_neg k1, if_pos k2] at hl ⊢; exact aV0 r k2
 by_cases k3 : op.kind = 3
 · simp only [if_neg k1, if_neg k2, if_pos k3] at hl ⊢; exact aW0 r k3
 by_cases k4 : op.kind = 4
 · simp only [if_neg k1, if_neg k2, if_neg k3, if_pos k4] at hl ⊢; exact hP0 r k4
 by_cases k5 : op.kind = 5
 · simp only [if_neg k1, if_neg k2, if_neg k3, if_neg k4, if_pos k5] at hl ⊢; exact kN0 r k5
 by_cases k6 : op.kind = 6
 · simp only [if_neg k1, if_neg k2, if_neg k3, if_neg k4, if_neg k5, if_pos k6] at hl ⊢; exact hO0 r k6
 by_cases k7 : op.kind = 7
 · simp only [if_neg k1, if_neg k2, if_neg k3, if_neg k4, if_neg k5, if_neg k6, if_pos k7] at hl ⊢
   exact cT0 r k7 fun e => hw ⟨k7, e⟩
 by_cases k8 : op.kind = 8
 · simp only [if_neg k1, if_neg k2, if_neg k3, if_neg k4, if_neg k5, if_neg k6, if_neg k7, if_pos k8] at hl ⊢; exact hQ0 r k8 hl
 by_cases k9 : op.kind = 9
 · simp only [if_neg k1, if_neg k2, if_neg k3, if_neg k4, if_neg k5, if_neg k6, if_neg k7, if_neg k8, if_pos k9] at hl ⊢; exact kO0 r k9 hl
 simp only [if_neg k1, if_neg k2, if_neg k3, if_neg k4, if_neg k5, if_neg k6, if_neg k7, if_neg k8, if_neg k9] at hl ⊢
 have h10 := r.ok.2.1
 have h11 := r.ok.1
 exact eK0 r (by omega)
theorem mP0 {p : Prog} {s : State} {t : Int} (ft : Fits p s) (h : t ∈ cG s) (hw : sD p s t) : ¬ Fits p (doM p s t) := by
 obtain ⟨k, ops, a, st, op, rfl, r⟩ := rdy ft h
 rw [sD, r.at_] at hw
 obtain ⟨k7, hw⟩ := hw
 obtain ⟨x, hx, hxa, ok, hi⟩ := r.barrier k7
 have e : doM p s (k : Int) = bE (setBarrier s op ⟨0, 0, []⟩) k 1 := by
   simp only [doM, r.at_, dD, k7, hJ, hw]
   simp
 rw [e]
 intro f
 have hi : op.on.toNat < s.barriers.length := (List.getElem?_eq_some_iff.1 hx).1
 have h1 := (f.barriers op.on.toNat ⟨0, 0, []⟩ (by simp [bE, setBarrier, hi])).1.1
 simp at h1
def StepOk (p : Prog) (s : State) (t : Int) : Prop := Fits p s ∧ t ∈ cG s ∧ (doM p s t).said.length ≤ 64 ∧ Fits p (doM p s t)
theorem xM {p : Prog} {s : State} {t : Int} : StepOk p s t ↔ Fits p s ∧ t ∈ cG s ∧ (doM p s t).said.length ≤ 64 ∧ ¬ sD p s t :=
 ⟨fun ⟨h1, h2, h3, h4⟩ => ⟨h1, h2, h3, fun hw => mP0 h1 h2 hw h4⟩, fun ⟨h1, h2, h3, h4⟩ => ⟨h1, h2, h3, zJ h1 h2 h3 h4⟩⟩
def nC (a : List SemH) (b : List OnceH) (c : List GroupH) (d : List BarrierH) (e : List ChanH) : List Fct := a.flatMap oD ++ (b.flatMap mW ++ (c.flatMap jD ++ (d.flatMap eC ++ e.flatMap gM)))
def gW (y : StateH) : List Fct := nC y.sems y.onces y.groups y.barriers y.chans
def qH (y : StateH) : List Fct := [own y.h0 3 aJ 1 y.places, own y.h1 3 aJ 1 y.status, own y.h2 95 gI 3 y.sems, own y.h3 102 eD 4 y.onces, own y.h4 108 dR 2 y.groups, own y.h5 114 dA 3 y.barriers, own y.h6 119 fH 5 y.chans, own y.h7 3 aJ 1 y.said]
theorem tM {α : Type} (x : α) (A B L : List α) (h : (A ++ B).Perm L) : (A ++ (x :: B)).Perm (x :: L) := List.perm_middle.trans (.cons x h)
theorem perm8 {α : Type} (a0 a1 a2 a3 a4 a5 a6 a7 : α) (A B C D E : List α) : (a0 :: a1 :: ((a2 :: A) ++ ((a3 :: B) ++ ((a4 :: C) ++ ((a5 :: D) ++ ((a6 :: E) ++ [a7])))))).Perm ([a0, a1, a2, a3, a4, a5, a6, a7] ++ (A ++ (B ++ (C ++ (D ++ E))))) := by
 simp only [List.cons_append, List.nil_append]
 refine .cons a0 (.cons a1 (.cons a2 (tM a3 A _ _ ?_)))
 rw [← List.append_assoc]
 refine tM a4 _ _ _ ?_
 rw [← List.append_assoc]
 refine tM a5 _ _ _ ?_
 rw [← List.append_assoc]
 refine tM a6 _ _ _ ?_
 rw [← List.append_assoc]
 refine tM a7 _ _ _ ?_
 exact .of_eq (by simp [List.append_assoc])
theorem nP (y : StateH) : (aK y).Perm (qH y ++ gW y) := perm8 _ _ _ _ _ _ _ _ _ _ _ _ _
theorem sE {E : Env} {A : Nat → Nat} {n : Nat} {B : List (Nat × TypeId × Nat)} {M : List ((Nat × Nat) × SV)} {F : List Fct} {w : World} (h : WD E A n B M F w) {G : List Fct} (hG : ∀ g ∈ G, ∃ f ∈ F, Rd f g.aged) : (fR G).P w ∧ ∀ b, (fR G).foot b → b < w.heap.size := by
 refine ⟨fun g hg => ?_, ?_⟩
 · obtain ⟨g0, hg0, rfl⟩ := List.mem_map.1 hg
   obtain ⟨f, hf, hr⟩ := hG g0 hg0
   exact hr.p w (h.fct f hf).1
 · rintro b ⟨g, hg, hb⟩
   obtain ⟨g0, hg0, rfl⟩ := List.mem_map.1 hg
   obtain ⟨f, hf, hr⟩ := hG g0 hg0
   exact ((h.fct f hf).2.1 b (hr.foot b hb)).1
theorem jV {F : List Fct} (y : StateH) (ho : ∀ g ∈ qH y, g ∈ F) (hin : ∀ g ∈ gW y, ∃ f ∈ F, Rd f g.aged) : ∀ g ∈ aK y, ∃ f ∈ F, Rd f g.aged := by
 intro g hg
 rcases List.mem_append.1 ((nP y).mem_iff.1 hg) with hg | hg
 · exact ⟨g, ho g hg, .aged g⟩
 · exact hin g hg
theorem inO {Zs G : List Fct} (k : Nat) (hk : Zs[k]? = some (fO G)) {g : Fct} (hg : g ∈ G) : ∃ f ∈ Zs, Rd f g.aged := ⟨_, List.mem_of_getElem? hk, .ofO ⟨g, hg, .refl _⟩⟩
theorem inF {F : List Fct} {g : Fct} (hg : g ∈ F) : ∃ f ∈ F, Rd f g.aged := ⟨g, hg, .aged g⟩
theorem qI {α : Type} {f : α → List Fct} {xs : List α} {i : Nat} {x : α} {g : Fct} (h : g ∈ (xs.set i x).flatMap f) : g ∈ xs.flatMap f ∨ g ∈ f x := by
 obtain ⟨z, hz, hg⟩ := List.mem_flatMap.1 h
 rcases List.mem_or_eq_of_mem_set hz with hz | rfl
 · exact .inl (List.mem_flatMap.2 ⟨z, hz, hg⟩)
 · exact .inr hg
theorem oL {a b c d e i x g} (h : g ∈ nC (a.set i x) b c d e) : g ∈ nC a b c d e ∨ g ∈ oD x := by
 rcases List.mem_append.1 h with h | h
 · exact (qI h).imp (fun h => List.mem_append_left _ h) id
 · exact .inl (List.mem_append_right _ h)
theorem lA {a b c d e i x g} (h : g ∈ nC a (b.set i x) c d e) : g ∈ nC a b c d e ∨ g ∈ mW x := by
 rcases List.mem_append.1 h with h | h
 · exact .inl (List.mem_append_left _ h)
 rcases List.mem_append.1 h with h | h
 · exact (qI h).imp (fun h => List.mem_append_right _ (List.mem_append_left _ h)) id
 · exact .inl (List.mem_append_right _ (List.mem_append_right _ h))
theorem lQ {a b c d e i x g} (h : g ∈ nC a b (c.set i x) d e) : g ∈ nC a b c d e ∨ g ∈ jD x := by
 rcases List.mem_append.1 h with h | h
 · exact .inl (List.mem_append_left _ h)
 rcases List.mem_append.1 h with h | h
 · exact .inl (List.mem_append_right _ (List.mem_append_left _ h))
 rcases List.mem_append.1 h with h | h
 · exact (qI h).imp (fun h => List.mem_append_right _ (List.mem_append_right _ (List.mem_append_left _ h))) id
 · exact .inl (List.mem_append_right _ (List.mem_append_right _ (List.mem_append_right _ h)))
theorem lH {a b c d e i x g} (h : g ∈ nC a b c (d.set i x) e) : g ∈ nC a b c d e ∨ g ∈ eC x := by
 rcases List.mem_append.1 h with h | h
 · exact .inl (List.mem_append_left _ h)
 rcases List.mem_append.1 h with h | h
 · exact .inl (List.mem_append_right _ (List.mem_append_left _ h))
 rcases List.mem_append.1 h with h | h
 · exact .inl (List.mem_append_right _ (List.mem_append_right _ (List.mem_append_left _ h)))
 rcases List.mem_append.1 h with h | h
 · exact (qI h).imp (fun h => List.mem_append_right _ (List.mem_append_right _ (List.mem_append_right _ (List.mem_append_left _ h)))) id
 · exact .inl (List.mem_append_right _ (List.mem_append_right _ (List.mem_append_right _ (List.mem_append_right _ h))))
theorem iO {a b c d e i x g} (h : g ∈ nC a b c d (e.set i x)) : g ∈ nC a b c d e ∨ g ∈ gM x := by
 rcases List.mem_append.1 h with h | h
 · exact .inl (List.mem_append_left _ h)
 rcases List.mem_append.1 h with h | h
 · exact .inl (List.mem_append_right _ (List.mem_append_left _ h))
 rcases List.mem_append.1 h with h | h
 · exact .inl (List.mem_append_right _ (List.mem_append_right _ (List.mem_append_left _ h)))
 rcases List.mem_append.1 h with h | h
 · exact .inl (List.mem_append_right _ (List.mem_append_right _ (List.mem_append_right _ (List.mem_append_left _ h))))
 · exact (qI h).imp (fun h => List.mem_append_right _ (List.mem_append_right _ (List.mem_append_right _ (List.mem_append_right _ h)))) id
theorem Fits.small {p : Prog} {s : State} (h : Fits p s) : s.small20 := by
 have n4 := h.prog.n4
 have e0 := h.np
 have e1 := h.ns
 have e2 := h.lsems
 have e3 := h.lonces
 have e4 := h.lgroups
 have e5 := h.lbarriers
 have e6 := h.lchans
 have e7 := h.lsaid
 have m0 := h.prog.sems.1
 have m1 := h.prog.groups.1
 have m2 := h.prog.barriers.1
 have m3 := h.prog.rooms.1
 refine ⟨by omega, by omega, ⟨by omega, fun x hx => ?_⟩, ⟨by omega, fun x hx => ?_⟩, ⟨by omega, fun x hx => ?_⟩, ⟨by omega, fun x hx => ?_⟩, ⟨by omega, fun x hx => ?_⟩, by omega⟩
 · obtain ⟨i, hi, rfl⟩ := List.getElem_of_mem hx
   have := (h.sems i _ (List.getElem?_eq_getElem hi)).1.q6
   unfold Sem.small20; omega
 · have := eZ (h.onces x hx)
   unfold Once.small20; omega
 · have := fQ (h.groups x hx)
   unfold Group.small20; omega
 · obtain ⟨i, hi, rfl⟩ := List.getElem_of_mem hx
   have := gA (h.barriers i _ (List.getElem?_eq_getElem hi)).1
   unfold Barrier.small20; omega
 · obtain ⟨i, hi, rfl⟩ := List.getElem_of_mem hx
   have hv := (h.chans i _ (List.getElem?_eq_getElem hi)).1
   have h1 := mX hv
   have h2 : (s.chans[i]).Valid := by simpa [Chan.valid] using hv
   have := h2.it
   have := h2.r1
   refine ⟨by omega, by omega, by omega⟩
def StepR (p : Prog) (s : State) (t : Int) (v : Value) (L : List Fct) : Prop := ∃ (y : StateH) (b : Bool), v = .tuple #[aM y, .bool b] ∧ (b = true ↔ StepOk p s t) ∧ (b = true → y.pure = doM p s t) ∧ (b = false → y.pure = State.zero) ∧ L = [fO (aK y)]
def gJ0 (s : StateH) : List Value := [s.h0.val s.places.length, s.h1.val s.status.length, s.h2.val s.sems.length, s.h3.val s.onces.length, s.h4.val s.groups.length, s.h5.val s.barriers.length, s.h6.val s.chans.length, s.h7.val s.said.length, .int .i64 s.fault]
theorem wG (f : Int) (g : Nat) (s : StateH) (w : World) (hg : Blk w g 35 (gJ0 s)) (h : AtG w [] [fR (aK s)]) (hoff : ∀ f ∈ [] ++ [fR (aK s)], ∀ b, f.foot b → b ≠ g) (hs : s.pure.small20) :
   Calls Tryz.prog 65 #[.int .i64 f, .pointer (some ⟨g, 0, none⟩)] w (vG w g 35 9 [] fun v cs L => ∃ y : StateH, v = .tuple #[aM y, .bool true] ∧ cs = gJ0 s ∧ y.pure = gK s.pure f ∧ L = [fO (aK y)]) := by
 refine vI Tryz.func65 rfl aA w _ rfl _ rfl _ 35 _ 9 rfl hg _ _ h hoff ⟨rfl, rfl, trivial⟩ [.int .i64 f] _ rfl rfl ?_
 refine aB _ pJ rfl rfl rfl rfl ⟨rfl, rfl⟩ (fun A w hW => cO s w ⟨hW.get 0 rfl (.refl _), trivial⟩ hs) ?_
 rintro v L ⟨y, rfl, hy, rfl⟩
 obtain ⟨y2, hy2⟩ : ∃ y2 : StateH, y2 = { y with fault := f } := ⟨_, rfl⟩
 refine aO (.joinO [0] (Gs := [_]) ⟨.inl ⟨_, rfl, .o⟩, trivial⟩ rfl (G := aK y2) (by rw [hy2]; exact .of_eq z96)) ?_
 exact vH [0] ⟨y2, by subst hy2; rfl, rfl, by rw [hy2, gK, ← hy]; rfl, rfl⟩ rfl rfl z144 rfl ⟨rfl, trivial⟩ (fun _ => rfl)
theorem d_box {E : Env} {o : Oper} {Ms : List ((Nat × Nat) × SV)} {Fs : List Fct} {next : St → Prop} {T : List (Nat × SV)} {n c : Nat} {B : List (Nat × TypeId × Nat)} {M : List ((Nat × Nat) × SV)} {F : List Fct} {t : TypeId} {x : Operand} {d : Nat} {s : SV} {l : List SV}
   (hop : o.op = .box t x) (hd : Dst E o d) (hx : bF T x = some s) (hl : iR s = some l) (hnext : kI n 0 l M fun M' => next (.mk ((d, .p n 0) :: T) (n + 1) (c + 1) ((n, t, dG l) :: B) M' F)) :
   OpW (opD E o Ms Fs next T n c B M F) := by
 refine ⟨fun hkm hkf A a w hW hT => ?_⟩
 rw [eJ] at hnext
 obtain ⟨h1, h2⟩ := aI hT hx
 obtain ⟨c1, c2, c3⟩ := iS (A := A) hl h2
 have hal := hW.alloc c2 t
 rw [← dF] at hal
 have hcells : (l.map (SV.den A)).toArray = (s.den A).cells := by rw [← c1]
 rw [hcells] at hal
 have hr : (execOp a.eval o).run E.P w = .ok (.value (.pointer (some ⟨w.heap.size, 0, none⟩))) (w.alloc (.cells (s.den A).cells t)) := by
   simp [execOp, hop, Instr.box, newVar, newRow, h1]
 refine aW hr ?_
 rw [hd.1]
 refine ⟨fun k => if k = n then w.heap.size else A k, _, n + 1, c + 1, _, _, F, fun k hk => ?_, Nat.le_succ n, fun x hx => by simp [hx], fun k o v hv => ?_, hkf, hal, fun w2 => ?_, hnext⟩
 · simp only [if_neg (show k ≠ n by omega)]
 · have hm := hkm k o v hv
   obtain ⟨⟨ty, sz, hk⟩, _⟩ := hW.mem k o v hm
   have := (hW.key _ _ _ hk).1
   rw [dJ, if_neg (by omega)]
   exact hm
 · have := (hT.alloc w.heap.size w2).put (d := d) (v := .p n 0) (by have := hd.lt; simpa using this) (Nat.lt_succ_self n)
   simpa [SV.den, ptr] using this
theorem tN {m x1 : Sem} {n : Int} {told : List Int} (ok : SemOk m) (h1 : 1 ≤ n) (h : m.release n = some (x1, told)) : (∀ u ∈ told, u ∈ m.queue.map (·.t)) ∧ told.length ≤ 6 := by
 rw [Sem.release] at h
 split at h
 · obtain ⟨j, i1, i2, _⟩ := tK m.queue (m.free + n) (by have := ok.f0; omega) (fun w hw => (ok.cnt w hw).1)
   injection h with h
   injection h with h2 h3
   rw [i2] at h3
   subst h3
   have := ok.q6
   refine ⟨fun u hu => ?_, by simp; omega⟩
   obtain ⟨w, hw, rfl⟩ := List.mem_map.1 hu
   exact List.mem_map_of_mem (List.mem_of_mem_take hw)
 · cases h
theorem cU0 {m x1 : Group} {n : Int} {told : List Int} (ok : fD m) (h : m.add n = some (x1, told)) : (∀ u ∈ told, u ∈ m.waits) ∧ told.length ≤ 6 := by
 have hl := fQ ok
 rw [Group.add] at h
 split at h
 · split at h
   · injection h with h; injection h with h2 h3; subst h3; exact ⟨fun u hu => hu, hl⟩
   · injection h with h; injection h with h2 h3; subst h3; exact ⟨fun u hu => by simp at hu, by simp⟩
 · cases h
theorem vM {m x1 : Barrier} {t : Int} {told : List Int} (ok : dP m) (h : m.arrive t = some (x1, told)) : (∀ u ∈ told, u ∈ m.waits ∨ u = t) ∧ told.length ≤ 7 := by
 have hl := gA ok
 rw [Barrier.arrive] at h
 split at h
 · injection h with h; injection h with h2 h3; subst h3; exact ⟨fun u hu => by simp at hu, by simp⟩
 · split at h
   · cases h
   · injection h with h; injection h with h2 h3; subst h3; exact ⟨fun u hu => by simpa using hu, by simp; omega⟩
theorem zK {m x1 : Chan} {t v : Int} {told : List Int} {b1 b2 : Bool} (h : m.send t v = (x1, told, b1, b2)) : (∀ u ∈ told, u ∈ m.threads) ∧ told.length ≤ 1 ∧ (b1 = false → told = []) := by
 rw [Chan.send] at h
 split at h
 · split at h
   · rename_i hg
     simp only [Prod.mk.injEq] at h
     obtain ⟨_, rfl, rfl, _⟩ := h
     refine ⟨fun u hu => ?_, by simp, fun e => by cases e⟩
     obtain rfl := List.mem_singleton.1 hu
     exact List.mem_append_right _ (List.getElem_mem hg)
   · split at h
     · simp only [Prod.mk.injEq] at h
       obtain ⟨_, rfl, rfl, _⟩ := h
       exact ⟨fun u hu => by simp at hu, by simp, fun e => by cases e⟩
     · simp only [Prod.mk.injEq] at h
       obtain ⟨_, rfl, rfl, _⟩ := h
       exact ⟨fun u hu => by simp at hu, by simp, fun _ => rfl⟩
 · simp only [Prod.mk.injEq] at h
   obtain ⟨_, rfl, rfl, _⟩ := h
   exact ⟨fun u hu => by simp at hu, by simp, fun _ => rfl⟩
theorem cV0 {m x1 : Chan} {t v c : Int} {told : List Int} {b2 : Bool} (h : m.get t = (x1, v, c, told, b2)) : (∀ u ∈ told, u ∈ m.threads) ∧ told.length ≤ 1 ∧ (c = 0 ∨ c = 1 ∨ c = 2) ∧ (c = 0 → told = []) := by
 rw [Chan.get] at h
 split at h
 · split at h
   · simp only [Prod.mk.injEq] at h
     obtain ⟨_, _, rfl, rfl, _⟩ := h
     refine ⟨fun u hu => ?_, by simp [Chan.gWho]; omega, by omega, fun e => by omega⟩
     obtain ⟨l, hl, rfl⟩ := List.mem_map.1 hu
     exact List.mem_append_left _ (List.mem_map_of_mem (List.mem_of_mem_take hl))
   · split at h
     · simp only [Prod.mk.injEq] at h
       obtain ⟨_, _, rfl, rfl, _⟩ := h
       exact ⟨fun u hu => by simp at hu, by simp, by omega, fun _ => rfl⟩
     · simp only [Prod.mk.injEq] at h
       obtain ⟨_, _, rfl, rfl, _⟩ := h
       exact ⟨fun u hu => by simp at hu, by simp, by omega, fun _ => rfl⟩
 · simp only [Prod.mk.injEq] at h
   obtain ⟨_, _, rfl, rfl, _⟩ := h
   exact ⟨fun u hu => by simp at hu, by simp, by omega, fun _ => rfl⟩
theorem xN {m x1 : Chan} {told : List Int} {b2 : Bool} (hv : m.Valid) (h : m.close = (x1, told, b2)) : (∀ u ∈ told, u ∈ m.threads) ∧ told.length ≤ 6 := by
 have hl := hv.len
 rw [Chan.close] at h
 split at h
 · simp only [Prod.mk.injEq] at h
   obtain ⟨_, rfl, _⟩ := h
   exact ⟨fun u hu => List.mem_append_right _ hu, by omega⟩
 · simp only [Prod.mk.injEq] at h
   obtain ⟨_, rfl, _⟩ := h
   exact ⟨fun u hu => by simp at hu, by simp⟩
theorem Chan.Valid.small {m : Chan} (hv : m.Valid) : m.small := by
 have := hv.len
 exact ⟨by omega, by omega, by omega⟩
theorem Rdy.owner {p : Prog} {s : State} {k : Nat} {ops : List Op} {a st : Int} {op : Op} (r : Rdy p s k ops a st op) {x : Once} (hx : s.onces[op.on.toNat]? = some x) (hi : ((op.on.toNat : Nat) : Int) = op.on) (h2 : st = 2) : x.state = 1 ∧ x.owner = k := by
 have hown : aN (cJ s) k = [op.on] := by
   rcases r.ow with ⟨e, _⟩ | ⟨_, _, e⟩
   · omega
   · exact e
 have hm : op.on ∈ aN (cJ s) k := by rw [hown]; simp
 obtain ⟨j, y, hy, h1, h2, h3⟩ := iM.1 hm
 have e : op.on.toNat = j := by omega
 rw [← e, hx] at hy
 injection hy with hy
 subst hy
 exact ⟨h1, h2⟩
theorem Rdy.stranger {p : Prog} {s : State} {k : Nat} {ops : List Op} {a st : Int} {op : Op} (r : Rdy p s k ops a st op) {x : Once} (hx : s.onces[op.on.toNat]? = some x) (h2 : st ≠ 2) : x.state = 1 → x.owner ≠ k := by
 intro h1 he
 have hown : aN (cJ s) k = [] := by
   rcases r.ow with ⟨_, e⟩ | ⟨e, _⟩
   · exact e
   · exact (h2 e).elim
 have : ((op.on.toNat : Nat) : Int) ∈ aN (cJ s) k := iM.2 ⟨_, x, hx, h1, he, rfl⟩
 rw [hown] at this
 cases this
theorem cW0 (s : StateH) (w : World) (h : At w [fR (aK s)]) (hb : s.status.length ≤ 1048576) :
   Calls Tryz.prog 47 #[aM s] w (Ret w fun v L => ∃ y : Sl, v = y.val (cG s.pure).length ∧ L = [own y 3 aJ 1 (cG s.pure)]) := by
 refine bZ Tryz.func47 rfl aA w _ rfl _ rfl _ h ⟨rfl, rfl, trivial⟩ _ (by decide) ?_
 refine AllSl.mk fun y0 => ?_
 refine LoopW.mk ⟨{ q : Nat × Sl × List Int // q.1 ≤ s.status.length ∧ q.2.2 = evL gC 0 (s.status.take q.1) ∧ (q.1 = 0 ∨ s.fault = 0) },
   fun q => .mk [(1, .p 0 0), (3, .v (q.1.2.1.val q.1.2.2.length)), (4, .v (.int .i64 (q.1.1 : Int)))] 1 0 [(0, 35, 9)] [((0, 1), .v (s.h1.val s.status.length)), ((0, 8), .v (.int .i64 s.fault))] [own q.1.2.1 3 aJ 1 q.1.2.2, fR (aK s)],
   fun q => s.status.length - q.1.1, ⟨(0, y0, []), Nat.zero_le _, rfl, .inl rfl⟩, ?_, ?_⟩
 · exact aC [0, 1] zw2 zw0 zw2 zw5 zw4 rfl rfl
 rintro ⟨⟨k, y, xs⟩, hk, hx, hkf⟩
 simp only at hk hx hkf
 have hend : s.status.length ≤ k ∨ ¬ s.fault = 0 → cG s.pure = xs := fun hn => by
   by_cases f0 : s.fault = 0
   · rw [cG, if_pos (show s.pure.fault = 0 from f0), hx, List.take_of_length_le (hn.resolve_right fun h => h f0)]; rfl
   · rw [cG, if_neg (show ¬ s.pure.fault = 0 from f0), hx, hkf.resolve_right f0]; rfl
 apply CaseB.mk <;> intro g
 · have hlt : k < s.status.length := by simpa using g
   apply CaseB.mk <;> intro g
   · have f0 : s.fault = 0 := by simpa using g
     have hw := bD k _ hlt (by omega)
     have hsucc := eY gC s.status hlt
     have hl : xs.length ≤ 1048576 := by have := mY (s.status.take k); rw [← hx] at this; simp at this; omega
     refine aG aE aA rfl rfl rfl rfl rfl ⟨rfl, rfl⟩ (aL 1 rfl (.ofR (cS s))) k rfl z43 (fun ad => ?_)
     refine CaseB.mk (fun g => ?_) (fun g0 => ?_)
     · have c : s.status[k] = 0 ∨ s.status[k] = 2 := .inl z98
       refine AllSl.mk fun b => ?_
       refine bQ aE 1 aA (ys := [(k : Int)]) rfl rfl rfl rfl rfl rfl rfl rfl rfl (by decide) ⟨rfl, rfl⟩ rfl z35 z43 z43 (fun z => ?_)
       refine ⟨⟨(k + 1, z, xs ++ [(k : Int)]), by omega, by simp only [hsucc, gC, if_pos c, hx], .inr f0⟩, ?_, by simp only; omega⟩
       exact aC [0, 2] zw1 zw0 zw1 zw5 zw3 rfl rfl
     have n0 : ¬ s.status[k] = 0 := by simpa using g0
     refine aG aE aA rfl rfl rfl rfl rfl ⟨rfl, rfl⟩ (aL 1 rfl (.ofR (cS s))) k rfl z43 (fun ad2 => ?_)
     apply CaseB.mk <;> intro g
     · have c : s.status[k] = 0 ∨ s.status[k] = 2 := .inr z98
       refine AllSl.mk fun b => ?_
       refine bQ aE 1 aA (ys := [(k : Int)]) rfl rfl rfl rfl rfl rfl rfl rfl rfl (by decide) ⟨rfl, rfl⟩ rfl z35 z43 z43 (fun z => ?_)
       refine ⟨⟨(k + 1, z, xs ++ [(k : Int)]), by omega, by simp only [hsucc, gC, if_pos c, hx], .inr f0⟩, ?_, by simp only; omega⟩
       exact aC [0, 2] zw1 zw0 zw1 zw5 zw3 rfl rfl
     have n2 : ¬ s.status[k] = 2 := by simpa using g
     refine ⟨⟨(k + 1, y, xs), by omega, by simp only [hsucc, gC, if_neg (show ¬ (s.status[k] = 0 ∨ s.status[k] = 2) from fun h => h.elim n0 n2), hx, List.append_nil], .inr f0⟩, ?_, by simp only; omega⟩
     exact aC [0, 1] zw1 zw0 zw1 zw5 zw3 rfl rfl
   · have f0 : ¬ s.fault = 0 := by simpa using g
     rw [hend (.inr f0)]
     exact bG [0] ⟨y, rfl, rfl⟩ z144 rfl ⟨rfl, trivial⟩ (fun _ => rfl)
 have hge : s.status.length ≤ k := by simpa using g
 rw [hend (.inl hge)]
 exact bG [0] ⟨y, rfl, rfl⟩ z144 rfl ⟨rfl, trivial⟩ (fun _ => rfl)
def kP0 (p : Prog) (s : State) (v : Value) (L : List Fct) : Prop := ∃ (y : Sl) (xs : List Int), v = y.val xs.length ∧ (Fits p s → xs = cG s) ∧ (¬ Fits p s → xs = []) ∧ L = [own y 3 aJ 1 xs]
theorem wA (p : ProgH) (s : StateH) (w : World) (h : At w [fR (aY p), fR (aK s)]) (hp : p.pure.small20) (hs : s.pure.small20) :
   Calls Tryz.prog 79 #[dW p, aM s] w (Ret w (kP0 p.pure s.pure)) := by
 have hb : s.status.length ≤ 1048576 := hs.2.1
 refine cB Tryz.func79 rfl aA w _ rfl _ rfl _ h ⟨rfl, rfl, rfl, rfl, trivial⟩ _ _ (by decide) ?_
 refine aB _ cl82 rfl rfl rfl rfl ⟨rfl, rfl⟩ (fun A w hW => tI p s w ⟨hW.get 0 rfl (.refl _), hW.get 1 rfl (.refl _), trivial⟩ hp hs) ?_
 rintro v L ⟨b, rfl, hbb, rfl⟩
 apply CaseB.mk <;> intro g
 · have n : ¬ Fits p.pure s.pure := fun e => by rw [hbb.2 e] at g; cases g
   refine AllSl.mk fun y0 => ?_
   exact bG [0] ⟨y0, [], rfl, fun e => (n e).elim, fun _ => rfl, rfl⟩ z144 rfl ⟨rfl, trivial⟩ (fun _ => rfl)
 have ft := hbb.1 z98
 refine aB _ cl47 rfl rfl rfl rfl ⟨rfl, rfl⟩ (fun A w hW => cW0 s w ⟨hW.get 1 rfl (.refl _), trivial⟩ hb) ?_
 rintro v L ⟨y, rfl, rfl⟩
 exact bG [0] ⟨y, _, rfl, fun _ => rfl, fun e => (e ft).elim, rfl⟩ z144 rfl ⟨rfl, trivial⟩ (fun _ => rfl)
end Go.Proofs.YtijmjecehppbfaaGreat
