/- FnExactStepThread: texts that its proof stands on, part 13. -/
import Derived.Test.YtklclbcckjhdpaaGreatQExactStepThreadl
namespace Go.Proofs.YtklclbcckjhdpaaGreat
open Go Go.Sx Go.RowKit
set_option maxHeartbeats 40000000 in
set_option maxRecDepth 100000 in
theorem l7Copy_c (s : StateH) (w : World) (h : At w [fR (stateO s)]) (hb : s.pure.small20) :
   Calls Tryz.prog 53 #[stateV s] w (Ret w fun v L => ∃ y : StateH, v = stateV y ∧ y.pure = s.pure ∧ L = [fO (stateO y)]) := by
 obtain ⟨b0, b1, b2, b3, b4, b5, b6, b7⟩ := hb
 have l0 : s.places.length ≤ 1048576 := b0
 have l1 : s.status.length ≤ 1048576 := b1
 have l7 : s.said.length ≤ 1048576 := b7
 have l2 : s.sems.length ≤ 1048576 := (allS_map b2).1
 have l3 : s.onces.length ≤ 1048576 := (allS_map b3).1
 have l4 : s.groups.length ≤ 1048576 := (allS_map b4).1
 have l5 : s.barriers.length ≤ 1048576 := (allS_map b5).1
 have l6 : s.chans.length ≤ 1048576 := (allS_map b6).1
 refine calls1 Tryz.func53 rfl tabOk w _ rfl _ rfl _ h ⟨rfl, rfl, trivial⟩ _ (by decide) ?_
 refine draw_cut (Sl × Sl × Sl) (fun y => .mk [(1, .p 0 0), (2, .p 1 0), (3, .p 2 0)] 3 0 [(0, 41, 9), (1, 41, 9), (2, 41, 9)] [((0, 0), .v (s.h0.val s.places.length)), ((0, 1), .v (s.h1.val s.status.length)), ((0, 2), .v (s.h2.val s.sems.length)), ((0, 3), .v (s.h3.val s.onces.length)), ((0, 4), .v (s.h4.val s.groups.length)), ((0, 5), .v (s.h5.val s.barriers.length)), ((0, 6), .v (s.h6.val s.chans.length)), ((0, 7), .v (s.h7.val s.said.length)), ((0, 8), .v (.int .i64 s.fault)), ((2, 0), .v (y.1.val s.places.length)), ((2, 1), .v (y.2.1.val s.status.length)), ((2, 2), .v (.slice none 0 0)), ((2, 3), .v (.slice none 0 0)), ((2, 4), .v (.slice none 0 0)), ((2, 5), .v (.slice none 0 0)), ((2, 6), .v (.slice none 0 0)), ((2, 7), .v (y.2.2.val s.said.length)), ((2, 8), .v (.int .i64 s.fault))] [own y.1 3 cInt 1 s.places, own y.2.1 3 cInt 1 s.status, own y.2.2 3 cInt 1 s.said, fR (stateO s)]) ?_ ?_
 · refine draw_start tabOk z107 z107 z107 200 [((0, 0), .v (s.h0.val s.places.length)), ((0, 1), .v (s.h1.val s.status.length)), ((0, 7), .v (s.h7.val s.said.length)), ((0, 8), .v (.int .i64 s.fault))] [] [] z126 z140 trivial rfl ?_
   repeat' ((conv => whnf); (first
     | refine BothW.mk ?_ ?_
     | refine AllSl.mk fun y => ?_
     | (refine opd_app rfl rfl ?_; refine d_appK (ti := tiOf tab) encInt tabOk (xs := ([] : List Int)) rfl rfl rfl rfl rfl rfl rfl rfl rfl (by decide) ⟨rfl, rfl⟩ z43 (by first | exact rdVia 0 rfl (.ofR (stateO_places s)) | exact rdVia 1 rfl (.ofR (stateO_places s)) | exact rdVia 2 rfl (.ofR (stateO_places s)) | exact rdVia 3 rfl (.ofR (stateO_places s)) | exact rdVia 4 rfl (.ofR (stateO_places s)) | exact rdVia 5 rfl (.ofR (stateO_places s)) | exact rdVia 6 rfl (.ofR (stateO_places s)) | exact rdVia 0 rfl (.ofR (stateO_status s)) | exact rdVia 1 rfl (.ofR (stateO_status s)) | exact rdVia 2 rfl (.ofR (stateO_status s)) | exact rdVia 3 rfl (.ofR (stateO_status s)) | exact rdVia 4 rfl (.ofR (stateO_status s)) | exact rdVia 5 rfl (.ofR (stateO_status s)) | exact rdVia 6 rfl (.ofR (stateO_status s)) | exact rdVia 0 rfl (.ofR (stateO_said s)) | exact rdVia 1 rfl (.ofR (stateO_said s)) | exact rdVia 2 rfl (.ofR (stateO_said s)) | exact rdVia 3 rfl (.ofR (stateO_said s)) | exact rdVia 4 rfl (.ofR (stateO_said s)) | exact rdVia 5 rfl (.ofR (stateO_said s)) | exact rdVia 6 rfl (.ofR (stateO_said s))) z47 z47 z105 (fun y => ?_))
     | fail))
   all_goals
     refine ⟨(?_, ?_, ?_), ?_⟩
     rotate_left 3
     exact weak_mk [2, 1, 0, 3] zw2 zw0 zw2 zw5 zw4 rfl rfl
 rintro ⟨a, b, d⟩
 simp only
 refine LoopW.mk ⟨{ q : Nat × Sl × List SemH // q.1 ≤ s.sems.length ∧ q.2.2.map (·.m) = (s.sems.map (·.m)).take q.1 },
   fun q => .mk [(1, .p 0 0), (2, .p 1 0), (3, .p 2 0), (4, .v (.int .i64 (q.1.1 : Int)))] 3 0 [(0, 41, 9), (1, 41, 9), (2, 41, 9)] [((0, 0), .v (s.h0.val s.places.length)), ((0, 1), .v (s.h1.val s.status.length)), ((0, 2), .v (s.h2.val s.sems.length)), ((0, 3), .v (s.h3.val s.onces.length)), ((0, 4), .v (s.h4.val s.groups.length)), ((0, 5), .v (s.h5.val s.barriers.length)), ((0, 6), .v (s.h6.val s.chans.length)), ((0, 7), .v (s.h7.val s.said.length)), ((0, 8), .v (.int .i64 s.fault)), ((2, 0), .v (a.val s.places.length)), ((2, 1), .v (b.val s.status.length)), ((2, 2), .v (q.1.2.1.val q.1.2.2.length)), ((2, 3), .v (.slice none 0 0)), ((2, 4), .v (.slice none 0 0)), ((2, 5), .v (.slice none 0 0)), ((2, 6), .v (.slice none 0 0)), ((2, 7), .v (d.val s.said.length)), ((2, 8), .v (.int .i64 s.fault))] [own q.1.2.1 95 cSemH 3 q.1.2.2, fO (q.1.2.2.flatMap semO), own a 3 cInt 1 s.places, own b 3 cInt 1 s.status, own d 3 cInt 1 s.said, fR (stateO s)],
   fun q => s.sems.length - q.1.1, ⟨(0, ⟨none, 0⟩, []), Nat.zero_le _, by simp⟩, ?_, ?_⟩
 · refine weak_shift (.joinO [] (Gs := []) trivial rfl (.refl _)) ?_
   exact weak_mk [99, 0, 1, 2, 3, 4] zw2 zw0 zw2 zw5 zw4 rfl rfl
 rintro ⟨⟨k, c0, L0⟩, hk, hL0⟩
 simp only at hk hL0
 have ln0 : L0.length = k := by have := congrArg List.length hL0; simp at this; omega
 apply CaseB.mk <;> intro g
 · have hlt : k < s.sems.length := by simpa using g
   have hw := e_succ k _ hlt (by omega)
   have hsm := (allS_map b2).2 _ (List.getElem_mem hlt)
   unfold Sem.small20 at hsm
   refine draw_start tabOk z107 z107 z107 200 [((0, 2), .v (s.h2.val s.sems.length))] [5] [_] z149 z153 ⟨rfl, trivial⟩ rfl ?_
   refine d_idx (ti := tiOf tab) encSemH tabOk rfl rfl rfl rfl rfl ⟨rfl, rfl⟩ (rdVia 0 rfl (.trans (.R_R (stateO_sems s)) (.ofR nest_h))) k rfl z47 (fun ad => ?_)
   refine BothW.mk ?_ ?_
   all_goals
     refine d_call _ cl129 rfl rfl rfl rfl ⟨rfl, rfl⟩ (fun A w hW => l1Copy_c _ _ w ⟨hW.get 5 rfl (.trans (.R_R (stateO_sems s)) (.ofR (semsO_0 _ _ k hlt))), trivial⟩ (by omega)) ?_
     rintro v L ⟨y0, rfl, rfl⟩
   rotate_left
   · refine BothW.mk ?_ ?_
     all_goals
       refine AllSl.mk fun u2 => ?_
       refine d_app (ti := tiOf tab) encSemH 2 tabOk (ys := [⟨(s.sems[k]).m, y0⟩]) rfl rfl rfl rfl rfl rfl rfl rfl rfl (by decide) ⟨rfl, rfl⟩ rfl z40 z47 z47 z105 (fun c2 => ?_)
       refine ⟨⟨(k + 1, c2, L0 ++ [⟨(s.sems[k]).m, y0⟩]), hlt, by rw [List.map_append]; exact map_take_succ hlt hL0 rfl⟩, ?_, by simp only; omega⟩
       refine weak_shift (.joinO [2, 3] (Gs := [[_], _]) z138 rfl (G := (L0 ++ [(⟨(s.sems[k]).m, y0⟩ : SemH)]).flatMap semO) z54) ?_
       exact weak_mk [1, 0, 3, 4, 5, 6] zw1 zw0 zw1 zw5 zw3 rfl rfl
   refine AllSl.mk fun u2 => ?_
   refine d_app (ti := tiOf tab) encSemH 2 tabOk (ys := [⟨(s.sems[k]).m, y0⟩]) rfl rfl rfl rfl rfl rfl rfl rfl rfl (by decide) ⟨rfl, rfl⟩ rfl z40 z47 z47 z105 (fun c2 => ?_)
   refine ⟨⟨(k + 1, c2, L0 ++ [⟨(s.sems[k]).m, y0⟩]), hlt, by rw [List.map_append]; exact map_take_succ hlt hL0 rfl⟩, ?_, by simp only; omega⟩
   refine weak_shift (.joinO [2, 3] (Gs := [[_], _]) z138 rfl (G := (L0 ++ [(⟨(s.sems[k]).m, y0⟩ : SemH)]).flatMap semO) z54) ?_
   exact weak_mk [1, 0, 3, 4, 5, 6] zw1 zw0 zw1 zw5 zw3 rfl rfl
 have hge : s.sems.length ≤ k := by simpa using g
 rw [List.take_of_length_le z97] at hL0
 refine LoopW.mk ⟨{ q : Nat × Sl × List OnceH // q.1 ≤ s.onces.length ∧ q.2.2.map (·.m) = (s.onces.map (·.m)).take q.1 },
   fun q => .mk [(1, .p 0 0), (2, .p 1 0), (3, .p 2 0), (5, .v (.int .i64 (q.1.1 : Int)))] 3 0 [(0, 41, 9), (1, 41, 9), (2, 41, 9)] [((0, 0), .v (s.h0.val s.places.length)), ((0, 1), .v (s.h1.val s.status.length)), ((0, 2), .v (s.h2.val s.sems.length)), ((0, 3), .v (s.h3.val s.onces.length)), ((0, 4), .v (s.h4.val s.groups.length)), ((0, 5), .v (s.h5.val s.barriers.length)), ((0, 6), .v (s.h6.val s.chans.length)), ((0, 7), .v (s.h7.val s.said.length)), ((0, 8), .v (.int .i64 s.fault)), ((2, 0), .v (a.val s.places.length)), ((2, 1), .v (b.val s.status.length)), ((2, 2), .v (c0.val L0.length)), ((2, 3), .v (q.1.2.1.val q.1.2.2.length)), ((2, 4), .v (.slice none 0 0)), ((2, 5), .v (.slice none 0 0)), ((2, 6), .v (.slice none 0 0)), ((2, 7), .v (d.val s.said.length)), ((2, 8), .v (.int .i64 s.fault))] [own q.1.2.1 102 cOnceH 4 q.1.2.2, fO (q.1.2.2.flatMap onceO), fO (semsO c0 L0), own a 3 cInt 1 s.places, own b 3 cInt 1 s.status, own d 3 cInt 1 s.said, fR (stateO s)],
   fun q => s.onces.length - q.1.1, ⟨(0, ⟨none, 0⟩, []), Nat.zero_le _, by simp⟩, ?_, ?_⟩
 · refine weak_shift (.joinO [0, 1] (Gs := [[_], _]) z138 rfl (G := semsO c0 L0) (.of_eq (by simp [semsO, nestO]))) ?_
   refine weak_shift (.joinO [] (Gs := []) trivial rfl (.refl _)) ?_
   exact weak_mk [99, 0, 1, 2, 3, 4, 5] zw2 zw0 zw2 zw5 zw4 rfl rfl
 rintro ⟨⟨k, c1, L1⟩, hk, hL1⟩
 simp only at hk hL1
 have ln1 : L1.length = k := by have := congrArg List.length hL1; simp at this; omega
 apply CaseB.mk <;> intro g
 · have hlt : k < s.onces.length := by simpa using g
   have hw := e_succ k _ hlt (by omega)
   have hsm := (allS_map b3).2 _ (List.getElem_mem hlt)
   unfold Once.small20 at hsm
   refine draw_start tabOk z107 z107 z107 200 [((0, 3), .v (s.h3.val s.onces.length))] [6] [_] z149 z153 ⟨rfl, trivial⟩ rfl ?_
   refine d_idx (ti := tiOf tab) encOnceH tabOk rfl rfl rfl rfl rfl ⟨rfl, rfl⟩ (rdVia 0 rfl (.trans (.R_R (stateO_onces s)) (.ofR nest_h))) k rfl z47 (fun ad => ?_)
   refine BothW.mk ?_ ?_
   all_goals
     refine d_call _ cl130 rfl rfl rfl rfl ⟨rfl, rfl⟩ (fun A w hW => l2Once_c _ _ w ⟨hW.get 6 rfl (.trans (.R_R (stateO_onces s)) (.ofR (oncesO_0 _ _ k hlt))), trivial⟩ (by omega)) ?_
     rintro v L ⟨y0, rfl, rfl⟩
   rotate_left
   · refine BothW.mk ?_ ?_
     all_goals
       refine AllSl.mk fun u2 => ?_
       refine d_app (ti := tiOf tab) encOnceH 2 tabOk (ys := [⟨(s.onces[k]).m, y0⟩]) rfl rfl rfl rfl rfl rfl rfl rfl rfl (by decide) ⟨rfl, rfl⟩ rfl z40 z47 z47 z105 (fun c2 => ?_)
       refine ⟨⟨(k + 1, c2, L1 ++ [⟨(s.onces[k]).m, y0⟩]), hlt, by rw [List.map_append]; exact map_take_succ hlt hL1 rfl⟩, ?_, by simp only; omega⟩
       refine weak_shift (.joinO [2, 3] (Gs := [[_], _]) z138 rfl (G := (L1 ++ [(⟨(s.onces[k]).m, y0⟩ : OnceH)]).flatMap onceO) z52) ?_
       exact weak_mk [1, 0, 3, 4, 5, 6, 7] zw1 zw0 zw1 zw5 zw3 rfl rfl
   refine AllSl.mk fun u2 => ?_
   refine d_app (ti := tiOf tab) encOnceH 2 tabOk (ys := [⟨(s.onces[k]).m, y0⟩]) rfl rfl rfl rfl rfl rfl rfl rfl rfl (by decide) ⟨rfl, rfl⟩ rfl z40 z47 z47 z105 (fun c2 => ?_)
   refine ⟨⟨(k + 1, c2, L1 ++ [⟨(s.onces[k]).m, y0⟩]), hlt, by rw [List.map_append]; exact map_take_succ hlt hL1 rfl⟩, ?_, by simp only; omega⟩
   refine weak_shift (.joinO [2, 3] (Gs := [[_], _]) z138 rfl (G := (L1 ++ [(⟨(s.onces[k]).m, y0⟩ : OnceH)]).flatMap onceO) z52) ?_
   exact weak_mk [1, 0, 3, 4, 5, 6, 7] zw1 zw0 zw1 zw5 zw3 rfl rfl
 have hge : s.onces.length ≤ k := by simpa using g
 rw [List.take_of_length_le z97] at hL1
 refine LoopW.mk ⟨{ q : Nat × Sl × List GroupH // q.1 ≤ s.groups.length ∧ q.2.2.map (·.m) = (s.groups.map (·.m)).take q.1 },
   fun q => .mk [(1, .p 0 0), (2, .p 1 0), (3, .p 2 0), (6, .v (.int .i64 (q.1.1 : Int)))] 3 0 [(0, 41, 9), (1, 41, 9), (2, 41, 9)] [((0, 0), .v (s.h0.val s.places.length)), ((0, 1), .v (s.h1.val s.status.length)), ((0, 2), .v (s.h2.val s.sems.length)), ((0, 3), .v (s.h3.val s.onces.length)), ((0, 4), .v (s.h4.val s.groups.length)), ((0, 5), .v (s.h5.val s.barriers.length)), ((0, 6), .v (s.h6.val s.chans.length)), ((0, 7), .v (s.h7.val s.said.length)), ((0, 8), .v (.int .i64 s.fault)), ((2, 0), .v (a.val s.places.length)), ((2, 1), .v (b.val s.status.length)), ((2, 2), .v (c0.val L0.length)), ((2, 3), .v (c1.val L1.length)), ((2, 4), .v (q.1.2.1.val q.1.2.2.length)), ((2, 5), .v (.slice none 0 0)), ((2, 6), .v (.slice none 0 0)), ((2, 7), .v (d.val s.said.length)), ((2, 8), .v (.int .i64 s.fault))] [own q.1.2.1 108 cGroupH 2 q.1.2.2, fO (q.1.2.2.flatMap groupO), fO (oncesO c1 L1), fO (semsO c0 L0), own a 3 cInt 1 s.places, own b 3 cInt 1 s.status, own d 3 cInt 1 s.said, fR (stateO s)],
   fun q => s.groups.length - q.1.1, ⟨(0, ⟨none, 0⟩, []), Nat.zero_le _, by simp⟩, ?_, ?_⟩
 · refine weak_shift (.joinO [0, 1] (Gs := [[_], _]) z138 rfl (G := oncesO c1 L1) (.of_eq (by simp [oncesO, nestO]))) ?_
   refine weak_shift (.joinO [] (Gs := []) trivial rfl (.refl _)) ?_
   exact weak_mk [99, 0, 1, 2, 3, 4, 5, 6] zw2 zw0 zw2 zw5 zw4 rfl rfl
 rintro ⟨⟨k, c2, L2⟩, hk, hL2⟩
 simp only at hk hL2
 have ln2 : L2.length = k := by have := congrArg List.length hL2; simp at this; omega
 apply CaseB.mk <;> intro g
 · have hlt : k < s.groups.length := by simpa using g
   have hw := e_succ k _ hlt (by omega)
   have hsm := (allS_map b4).2 _ (List.getElem_mem hlt)
   unfold Group.small20 at hsm
   refine draw_start tabOk z107 z107 z107 200 [((0, 4), .v (s.h4.val s.groups.length))] [7] [_] z149 z153 ⟨rfl, trivial⟩ rfl ?_
   refine d_idx (ti := tiOf tab) encGroupH tabOk rfl rfl rfl rfl rfl ⟨rfl, rfl⟩ (rdVia 0 rfl (.trans (.R_R (stateO_groups s)) (.ofR nest_h))) k rfl z47 (fun ad => ?_)
   refine d_idx (ti := tiOf tab) encGroupH tabOk rfl rfl rfl rfl rfl ⟨rfl, rfl⟩ (rdVia 0 rfl (.trans (.R_R (stateO_groups s)) (.ofR nest_h))) k rfl z47 (fun ad2 => ?_)
   refine BothW.mk ?_ ?_
   · skip
     refine AllSl.mk fun u1 => ?_
     refine d_app (ti := tiOf tab) encInt 0 tabOk (xs := []) (ys := (s.groups[k]).m.waits) rfl rfl rfl rfl rfl rfl rfl rfl rfl (by decide) ⟨rfl, rfl⟩ rfl (rdVia 8 rfl (.trans (.R_R (stateO_groups s)) (.ofR (groupsO_0 _ _ k hlt)))) z47 z47 z105 (fun y0 => ?_)
     refine AllSl.mk fun u2 => ?_
     refine d_app (ti := tiOf tab) encGroupH 2 tabOk (ys := [⟨(s.groups[k]).m, y0⟩]) rfl rfl rfl rfl rfl rfl rfl rfl rfl (by decide) ⟨rfl, rfl⟩ rfl z40 z47 z47 z105 (fun c2 => ?_)
     refine ⟨⟨(k + 1, c2, L2 ++ [⟨(s.groups[k]).m, y0⟩]), hlt, by rw [List.map_append]; exact map_take_succ hlt hL2 rfl⟩, ?_, by simp only; omega⟩
     refine weak_shift (.joinO [2, 3] (Gs := [[_], _]) z138 rfl (G := (L2 ++ [(⟨(s.groups[k]).m, y0⟩ : GroupH)]).flatMap groupO) z51) ?_
     exact weak_mk [1, 0, 3, 4, 5, 6, 7, 8] zw1 zw0 zw1 zw5 zw3 rfl rfl
   refine AllSl.mk fun u1 => ?_
   refine BothW.mk ?_ ?_
   · skip
     refine d_app (ti := tiOf tab) encInt 0 tabOk (xs := []) (ys := (s.groups[k]).m.waits) rfl rfl rfl rfl rfl rfl rfl rfl rfl (by decide) ⟨rfl, rfl⟩ rfl (rdVia 8 rfl (.trans (.R_R (stateO_groups s)) (.ofR (groupsO_0 _ _ k hlt)))) z47 z47 z105 (fun y0 => ?_)
     refine AllSl.mk fun u2 => ?_
     refine d_app (ti := tiOf tab) encGroupH 2 tabOk (ys := [⟨(s.groups[k]).m, y0⟩]) rfl rfl rfl rfl rfl rfl rfl rfl rfl (by decide) ⟨rfl, rfl⟩ rfl z40 z47 z47 z105 (fun c2 => ?_)
     refine ⟨⟨(k + 1, c2, L2 ++ [⟨(s.groups[k]).m, y0⟩]), hlt, by rw [List.map_append]; exact map_take_succ hlt hL2 rfl⟩, ?_, by simp only; omega⟩
     refine weak_shift (.joinO [2, 3] (Gs := [[_], _]) z138 rfl (G := (L2 ++ [(⟨(s.groups[k]).m, y0⟩ : GroupH)]).flatMap groupO) z51) ?_
     exact weak_mk [1, 0, 3, 4, 5, 6, 7, 8] zw1 zw0 zw1 zw5 zw3 rfl rfl
   refine d_app (ti := tiOf tab) encInt 0 tabOk (xs := []) (ys := (s.groups[k]).m.waits) rfl rfl rfl rfl rfl rfl rfl rfl rfl (by decide) ⟨rfl, rfl⟩ rfl (rdVia 8 rfl (.trans (.R_R (stateO_groups s)) (.ofR (groupsO_0 _ _ k hlt)))) z47 z47 z105 (fun y0 => ?_)
   refine BothW.mk ?_ ?_
   all_goals
     refine AllSl.mk fun u2 => ?_
     refine d_app (ti := tiOf tab) encGroupH 2 tabOk (ys := [⟨(s.groups[k]).m, y0⟩]) rfl rfl rfl rfl rfl rfl rfl rfl rfl (by decide) ⟨rfl, rfl⟩ rfl z40 z47 z47 z105 (fun c2 => ?_)
     refine ⟨⟨(k + 1, c2, L2 ++ [⟨(s.groups[k]).m, y0⟩]), hlt, by rw [List.map_append]; exact map_take_succ hlt hL2 rfl⟩, ?_, by simp only; omega⟩
     refine weak_shift (.joinO [2, 3] (Gs := [[_], _]) z138 rfl (G := (L2 ++ [(⟨(s.groups[k]).m, y0⟩ : GroupH)]).flatMap groupO) z51) ?_
     exact weak_mk [1, 0, 3, 4, 5, 6, 7, 8] zw1 zw0 zw1 zw5 zw3 rfl rfl
 have hge : s.groups.length ≤ k := by simpa using g
 rw [List.take_of_length_le z97] at hL2
 refine LoopW.mk ⟨{ q : Nat × Sl × List BarrierH // q.1 ≤ s.barriers.length ∧ q.2.2.map (·.m) = (s.barriers.map (·.m)).take q.1 },
   fun q => .mk [(1, .p 0 0), (2, .p 1 0), (3, .p 2 0), (7, .v (.int .i64 (q.1.1 : Int)))] 3 0 [(0, 41, 9), (1, 41, 9), (2, 41, 9)] [((0, 0), .v (s.h0.val s.places.length)), ((0, 1), .v (s.h1.val s.status.length)), ((0, 2), .v (s.h2.val s.sems.length)), ((0, 3), .v (s.h3.val s.onces.length)), ((0, 4), .v (s.h4.val s.groups.length)), ((0, 5), .v (s.h5.val s.barriers.length)), ((0, 6), .v (s.h6.val s.chans.length)), ((0, 7), .v (s.h7.val s.said.length)), ((0, 8), .v (.int .i64 s.fault)), ((2, 0), .v (a.val s.places.length)), ((2, 1), .v (b.val s.status.length)), ((2, 2), .v (c0.val L0.length)), ((2, 3), .v (c1.val L1.length)), ((2, 4), .v (c2.val L2.length)), ((2, 5), .v (q.1.2.1.val q.1.2.2.length)), ((2, 6), .v (.slice none 0 0)), ((2, 7), .v (d.val s.said.length)), ((2, 8), .v (.int .i64 s.fault))] [own q.1.2.1 114 cBarrierH 3 q.1.2.2, fO (q.1.2.2.flatMap barrierO), fO (groupsO c2 L2), fO (oncesO c1 L1), fO (semsO c0 L0), own a 3 cInt 1 s.places, own b 3 cInt 1 s.status, own d 3 cInt 1 s.said, fR (stateO s)],
   fun q => s.barriers.length - q.1.1, ⟨(0, ⟨none, 0⟩, []), Nat.zero_le _, by simp⟩, ?_, ?_⟩
 · refine weak_shift (.joinO [0, 1] (Gs := [[_], _]) z138 rfl (G := groupsO c2 L2) (.of_eq (by simp [groupsO, nestO]))) ?_
   refine weak_shift (.joinO [] (Gs := []) trivial rfl (.refl _)) ?_
   exact weak_mk [99, 0, 1, 2, 3, 4, 5, 6, 7] zw2 zw0 zw2 zw5 zw4 rfl rfl
 rintro ⟨⟨k, c3, L3⟩, hk, hL3⟩
 simp only at hk hL3
 have ln3 : L3.length = k := by have := congrArg List.length hL3; simp at this; omega
 apply CaseB.mk <;> intro g
 · have hlt : k < s.barriers.length := by simpa using g
   have hw := e_succ k _ hlt (by omega)
   have hsm := (allS_map b5).2 _ (List.getElem_mem hlt)
   unfold Barrier.small20 at hsm
   refine stop_idx encBarrierH tabOk rfl rfl rfl rfl rfl ⟨rfl, rfl⟩ (rdVia 8 rfl (.trans (.R_R (stateO_barriers s)) (.ofR nest_h))) k rfl z47 (fun ad => ?_)
   refine draw_start tabOk z107 z107 z107 200 [((3, 0), .v (.int .i64 (s.barriers[k]).m.parties)), ((3, 1), .v (.int .i64 (s.barriers[k]).m.round)), ((3, 2), .v ((s.barriers[k]).q.val (s.barriers[k]).m.waits.length))] [8] [_] z132 z144 ⟨rfl, trivial⟩ rfl ?_
   refine BothW.mk ?_ ?_
   · skip
     refine AllSl.mk fun u1 => ?_
     refine d_app (ti := tiOf tab) encInt 0 tabOk (xs := []) (ys := (s.barriers[k]).m.waits) rfl rfl rfl rfl rfl rfl rfl rfl rfl (by decide) ⟨rfl, rfl⟩ rfl (rdVia 9 rfl (.trans (.R_R (stateO_barriers s)) (.ofR (barriersO_0 _ _ k hlt)))) z47 z47 z105 (fun y0 => ?_)
     refine AllSl.mk fun u2 => ?_
     refine d_app (ti := tiOf tab) encBarrierH 2 tabOk (ys := [⟨(s.barriers[k]).m, y0⟩]) rfl rfl rfl rfl rfl rfl rfl rfl rfl (by decide) ⟨rfl, rfl⟩ rfl z40 z47 z47 z105 (fun c2 => ?_)
     refine ⟨⟨(k + 1, c2, L3 ++ [⟨(s.barriers[k]).m, y0⟩]), hlt, by rw [List.map_append]; exact map_take_succ hlt hL3 rfl⟩, ?_, by simp only; omega⟩
     refine weak_shift (.joinO [2, 3] (Gs := [[_], _]) z138 rfl (G := (L3 ++ [(⟨(s.barriers[k]).m, y0⟩ : BarrierH)]).flatMap barrierO) z50) ?_
     exact weak_mk [1, 0, 3, 4, 5, 6, 7, 8, 9] zw1 zw0 zw1 zw5 zw3 rfl rfl
   refine AllSl.mk fun u1 => ?_
   refine BothW.mk ?_ ?_
   · skip
     refine d_app (ti := tiOf tab) encInt 0 tabOk (xs := []) (ys := (s.barriers[k]).m.waits) rfl rfl rfl rfl rfl rfl rfl rfl rfl (by decide) ⟨rfl, rfl⟩ rfl (rdVia 9 rfl (.trans (.R_R (stateO_barriers s)) (.ofR (barriersO_0 _ _ k hlt)))) z47 z47 z105 (fun y0 => ?_)
     refine AllSl.mk fun u2 => ?_
     refine d_app (ti := tiOf tab) encBarrierH 2 tabOk (ys := [⟨(s.barriers[k]).m, y0⟩]) rfl rfl rfl rfl rfl rfl rfl rfl rfl (by decide) ⟨rfl, rfl⟩ rfl z40 z47 z47 z105 (fun c2 => ?_)
     refine ⟨⟨(k + 1, c2, L3 ++ [⟨(s.barriers[k]).m, y0⟩]), hlt, by rw [List.map_append]; exact map_take_succ hlt hL3 rfl⟩, ?_, by simp only; omega⟩
     refine weak_shift (.joinO [2, 3] (Gs := [[_], _]) z138 rfl (G := (L3 ++ [(⟨(s.barriers[k]).m, y0⟩ : BarrierH)]).flatMap barrierO) z50) ?_
     exact weak_mk [1, 0, 3, 4, 5, 6, 7, 8, 9] zw1 zw0 zw1 zw5 zw3 rfl rfl
   refine d_app (ti := tiOf tab) encInt 0 tabOk (xs := []) (ys := (s.barriers[k]).m.waits) rfl rfl rfl rfl rfl rfl rfl rfl rfl (by decide) ⟨rfl, rfl⟩ rfl (rdVia 9 rfl (.trans (.R_R (stateO_barriers s)) (.ofR (barriersO_0 _ _ k hlt)))) z47 z47 z105 (fun y0 => ?_)
   refine BothW.mk ?_ ?_
   all_goals
     refine AllSl.mk fun u2 => ?_
     refine d_app (ti := tiOf tab) encBarrierH 2 tabOk (ys := [⟨(s.barriers[k]).m, y0⟩]) rfl rfl rfl rfl rfl rfl rfl rfl rfl (by decide) ⟨rfl, rfl⟩ rfl z40 z47 z47 z105 (fun c2 => ?_)
     refine ⟨⟨(k + 1, c2, L3 ++ [⟨(s.barriers[k]).m, y0⟩]), hlt, by rw [List.map_append]; exact map_take_succ hlt hL3 rfl⟩, ?_, by simp only; omega⟩
     refine weak_shift (.joinO [2, 3] (Gs := [[_], _]) z138 rfl (G := (L3 ++ [(⟨(s.barriers[k]).m, y0⟩ : BarrierH)]).flatMap barrierO) z50) ?_
     exact weak_mk [1, 0, 3, 4, 5, 6, 7, 8, 9] zw1 zw0 zw1 zw5 zw3 rfl rfl
 have hge : s.barriers.length ≤ k := by simpa using g
 rw [List.take_of_length_le z97] at hL3
 refine LoopW.mk ⟨{ q : Nat × Sl × List ChanH // q.1 ≤ s.chans.length ∧ q.2.2.map (·.m) = (s.chans.map (·.m)).take q.1 },
   fun q => .mk [(1, .p 0 0), (2, .p 1 0), (3, .p 2 0), (9, .v (.int .i64 (q.1.1 : Int)))] 3 0 [(0, 41, 9), (1, 41, 9), (2, 41, 9)] [((0, 0), .v (s.h0.val s.places.length)), ((0, 1), .v (s.h1.val s.status.length)), ((0, 2), .v (s.h2.val s.sems.length)), ((0, 3), .v (s.h3.val s.onces.length)), ((0, 4), .v (s.h4.val s.groups.length)), ((0, 5), .v (s.h5.val s.barriers.length)), ((0, 6), .v (s.h6.val s.chans.length)), ((0, 7), .v (s.h7.val s.said.length)), ((0, 8), .v (.int .i64 s.fault)), ((2, 0), .v (a.val s.places.length)), ((2, 1), .v (b.val s.status.length)), ((2, 2), .v (c0.val L0.length)), ((2, 3), .v (c1.val L1.length)), ((2, 4), .v (c2.val L2.length)), ((2, 5), .v (c3.val L3.length)), ((2, 6), .v (q.1.2.1.val q.1.2.2.length)), ((2, 7), .v (d.val s.said.length)), ((2, 8), .v (.int .i64 s.fault))] [own q.1.2.1 119 cChanH 5 q.1.2.2, fO (q.1.2.2.flatMap chanO), fO (barriersO c3 L3), fO (groupsO c2 L2), fO (oncesO c1 L1), fO (semsO c0 L0), own a 3 cInt 1 s.places, own b 3 cInt 1 s.status, own d 3 cInt 1 s.said, fR (stateO s)],
   fun q => s.chans.length - q.1.1, ⟨(0, ⟨none, 0⟩, []), Nat.zero_le _, by simp⟩, ?_, ?_⟩
 · refine weak_shift (.joinO [0, 1] (Gs := [[_], _]) z138 rfl (G := barriersO c3 L3) (.of_eq z91)) ?_
   refine weak_shift (.joinO [] (Gs := []) trivial rfl (.refl _)) ?_
   exact weak_mk [99, 0, 1, 2, 3, 4, 5, 6, 7, 8] zw2 zw0 zw2 zw5 zw4 rfl rfl
 rintro ⟨⟨k, c4, L4⟩, hk, hL4⟩
 simp only at hk hL4
 have ln4 : L4.length = k := by have := congrArg List.length hL4; simp at this; omega
 apply CaseB.mk <;> intro g
 · have hlt : k < s.chans.length := by simpa using g
   have hw := e_succ k _ hlt (by omega)
   have hsm := (allS_map b6).2 _ (List.getElem_mem hlt)
   obtain ⟨z0, z1, z2⟩ := hsm
   refine draw_start tabOk z107 z107 z107 200 [((0, 6), .v (s.h6.val s.chans.length))] [9] [_] z149 z153 ⟨rfl, trivial⟩ rfl ?_
   refine d_idx (ti := tiOf tab) encChanH tabOk rfl rfl rfl rfl rfl ⟨rfl, rfl⟩ (rdVia 0 rfl (.trans (.R_R (stateO_chans s)) (.ofR nest_h))) k rfl z47 (fun ad => ?_)
   refine BothW.mk ?_ ?_
   all_goals
     refine d_call _ cl131 rfl rfl rfl rfl ⟨rfl, rfl⟩ (fun A w hW => copy_c _ _ _ _ w ⟨hW.get 9 rfl (.trans (.R_R (stateO_chans s)) (.ofR (chansO_0 _ _ k hlt))), hW.get 9 rfl (.trans (.R_R (stateO_chans s)) (.ofR (chansO_1 _ _ k hlt))), hW.get 9 rfl (.trans (.R_R (stateO_chans s)) (.ofR (chansO_2 _ _ k hlt))), trivial⟩ ⟨by omega, by omega, by omega⟩) ?_
     rintro v L ⟨y0, y1, y2, rfl, rfl⟩
   rotate_left
   · refine BothW.mk ?_ ?_
     all_goals
       refine AllSl.mk fun u2 => ?_
       refine d_app (ti := tiOf tab) encChanH 4 tabOk (ys := [⟨(s.chans[k]).m, y0, y1, y2⟩]) rfl rfl rfl rfl rfl rfl rfl rfl rfl (by decide) ⟨rfl, rfl⟩ rfl z40 z47 z47 z105 (fun c2 => ?_)
       refine ⟨⟨(k + 1, c2, L4 ++ [⟨(s.chans[k]).m, y0, y1, y2⟩]), hlt, by rw [List.map_append]; exact map_take_succ hlt hL4 rfl⟩, ?_, by simp only; omega⟩
       refine weak_shift (.joinO [2, 3, 4, 5] (Gs := [[_], [_], [_], _]) z124 rfl (G := (L4 ++ [(⟨(s.chans[k]).m, y0, y1, y2⟩ : ChanH)]).flatMap chanO) z53) ?_
       exact weak_mk [1, 0, 3, 4, 5, 6, 7, 8, 9, 10] zw1 zw0 zw1 zw5 zw3 rfl rfl
   refine AllSl.mk fun u2 => ?_
   refine d_app (ti := tiOf tab) encChanH 4 tabOk (ys := [⟨(s.chans[k]).m, y0, y1, y2⟩]) rfl rfl rfl rfl rfl rfl rfl rfl rfl (by decide) ⟨rfl, rfl⟩ rfl z40 z47 z47 z105 (fun c2 => ?_)
   refine ⟨⟨(k + 1, c2, L4 ++ [⟨(s.chans[k]).m, y0, y1, y2⟩]), hlt, by rw [List.map_append]; exact map_take_succ hlt hL4 rfl⟩, ?_, by simp only; omega⟩
   refine weak_shift (.joinO [2, 3, 4, 5] (Gs := [[_], [_], [_], _]) z124 rfl (G := (L4 ++ [(⟨(s.chans[k]).m, y0, y1, y2⟩ : ChanH)]).flatMap chanO) z53) ?_
   exact weak_mk [1, 0, 3, 4, 5, 6, 7, 8, 9, 10] zw1 zw0 zw1 zw5 zw3 rfl rfl
 have hge : s.chans.length ≤ k := by simpa using g
 rw [List.take_of_length_le z97] at hL4
 refine ret_shift (.joinO [0, 1] (Gs := [[_], _]) z138 rfl (G := chansO c4 L4) (.of_eq (by simp [chansO, nestO]))) ?_
 generalize hy : (⟨s.places, s.status, L0, L1, L2, L3, L4, s.said, s.fault, a, b, c0, c1, c2, c3, c4, d⟩ : StateH) = y
 refine ret_shift (.joinO [5, 6, 4, 3, 2, 1, 0, 7] (Gs := [[_], [_], _, _, _, _, _, [_]]) z115 rfl (G := stateO y) (by subst hy; exact .of_eq z102)) ?_
 exact retw [0] ⟨y, by rw [← hy]; rfl, by rw [← hy]; simp [StateH.pure, hL0, hL1, hL2, hL3, hL4], rfl⟩ z146 rfl ⟨rfl, trivial⟩ (fun _ => rfl)
def mkL {α : Type} (mk : Nat → α → α) (nx : Nat → α → Nat) : Nat → List α → List α
 | _, [] => []
 | k, x :: r => mk k x :: mkL mk nx (nx k x) r
def nxL {α : Type} (nx : Nat → α → Nat) : Nat → List α → Nat
 | k, [] => k
 | k, x :: r => nxL nx (nx k x) r
theorem mkL_len {α : Type} (mk : Nat → α → α) (nx : Nat → α → Nat) : ∀ (k : Nat) (xs : List α), (mkL mk nx k xs).length = xs.length
 | _, [] => rfl
 | k, x :: r => by simp [mkL, mkL_len mk nx (nx k x) r]
theorem nxL_le {α : Type} {nx : Nat → α → Nat} {C : Nat} {P : α → Prop} (h : ∀ k x, P x → nx k x ≤ k + C) : ∀ (k : Nat) (xs : List α), (∀ x ∈ xs, P x) → nxL nx k xs ≤ k + xs.length * C
 | k, [], _ => by simp [nxL]
 | k, x :: r, hx => by
   have h1 := nxL_le h (nx k x) r (fun y hy => hx y z109)
   have h2 := h k x (hx x (by simp))
   have e : (r.length + 1) * C = r.length * C + C := Nat.succ_mul _ _
   simp only [nxL, List.length_cons, e]
   omega
theorem app_get {α : Type} {ys zs : List α} {y : α} (h : ys.length < (ys ++ y :: zs).length) : (ys ++ y :: zs)[ys.length]'h = y := by simp
theorem app_set {α : Type} (ys zs : List α) (y z : α) : (ys ++ y :: zs).set ys.length z = ys ++ z :: zs := by simp
theorem perm_out {α β : Type} (f : α → List β) (ys zs : List α) (z : α) : ((ys ++ z :: zs).flatMap f).Perm (f z ++ (ys ++ zs).flatMap f) := by
 simp only [List.flatMap_append, List.flatMap_cons]
 rw [← List.append_assoc, ← List.append_assoc]
 exact List.perm_append_comm.append_right _
theorem perm_in {α β : Type} (f : α → List β) (ys zs : List α) (z : α) : (f z ++ (ys ++ zs).flatMap f).Perm (((ys ++ [z]) ++ zs).flatMap f) := by
 refine (perm_out f ys zs z).symm.trans (.of_eq ?_)
 simp
theorem own_eq {α : Type} {i : Sl} {e : TypeId} {enc : α → List Value} {sz : Nat} {xs ys : List α} (h : cells enc xs = cells enc ys) (hl : xs.length = ys.length) : own i e enc sz xs = own i e enc sz ys := by
 simp only [own, fOwn, h, hl]
theorem retG_shift {E : Env} {n : Nat} {B : List (Nat × TypeId × Nat)} {M : List ((Nat × Nat) × SV)} {F F' : List Fct} {X : (Nat → Nat) → World → Prop} (h : Shift F F') (k : RetW (∀ A w, WD E A n B M F' w → X A w)) : RetW (∀ A w, WD E A n B M F w → X A w) := ret_shift h k
def mkOpS (c : Nat) (x : OpSH) : OpSH := ⟨marksOp (c) x.m.length, x.q⟩
def nxOpS (c : Nat) (x : OpSH) : Nat := c + 3 * x.m.length
theorem nxOpS_le (c : Nat) (x : OpSH) (h : OpS.small20 x.m) : nxOpS c x ≤ c + 8388608 := by
 unfold OpS.small20 at h
 unfold nxOpS
 omega
set_option maxHeartbeats 16000000 in
set_option maxRecDepth 100000 in
theorem markOpSS_c (h : Sl) (xs : List OpSH) (k : Nat) (w : World) (hh : AtG w [fO (threadsO h xs)] []) (hl : xs.length ≤ 1048576) (hb : ∀ x ∈ xs, OpS.small20 x.m) (hk : k ≤ 144115188075855872) :
   Calls Tryz.prog 83 #[h.val xs.length, .int .i64 (k : Int)] w (RetG w [fO (threadsO h xs)] fun v L => v = .int .i64 ((nxL nxOpS k xs : Nat) : Int) ∧ L = [fO (threadsO h (mkL mkOpS nxOpS k xs))]) := by
 refine callsG_fn Tryz.func83 rfl tabOk w _ rfl _ rfl _ _ hh trivial _ _ rfl rfl ?_
 refine LoopW.mk ⟨{ p : List OpSH × List OpSH × Nat // mkL mkOpS nxOpS k xs = p.1 ++ mkL mkOpS nxOpS p.2.2 p.2.1 ∧ nxL nxOpS k xs = nxL nxOpS p.2.2 p.2.1 ∧ p.1.length + p.2.1.length = xs.length ∧ (∀ x ∈ p.2.1, OpS.small20 x.m) ∧ p.2.2 + p.2.1.length * 8388608 ≤ 288230376151711744 },
   fun p => .mk [(0, .v (h.val (p.1.1 ++ p.1.2.1).length)), (1, .v (.int .i64 (p.1.2.2 : Int))), (5, .v (.int .i64 (p.1.1.length : Int)))] 0 0 [] [] [own h 89 cOpSH 1 (p.1.1 ++ p.1.2.1), fO ((p.1.1 ++ p.1.2.1).flatMap opSO)],
   fun p => p.1.2.1.length, ⟨([], xs, k), by simp, rfl, by simp, hb, by simp only; omega⟩, ?_, ?_⟩
 · refine weak_shift (.splitO 0 (L := [own h 89 cOpSH 1 xs]) (G' := xs.flatMap opSO) rfl (.of_eq rfl)) ?_
   exact weak_mk [0, 1] zw2 zw0 zw2 zw5 zw4 rfl rfl
 rintro ⟨⟨ys, zs, c⟩, i1, i2, i3, i4, i5⟩
 simp only at i1 i2 i3 i4 i5
 apply CaseB.mk <;> intro g
 · cases zs with
   | nil => simp at g
   | cons x zs =>
     simp only [List.length_cons] at i3 i5
     have hx := i4 x (by simp)
     have hnx := nxOpS_le c x hx
     unfold OpS.small20 at hx
     have hlt : ∀ y : OpSH, ys.length < (ys ++ y :: zs).length := fun y => by simp
     refine stop_idx encOpSH (xs := ys ++ x :: zs) tabOk rfl (Eq.trans rfl (congrArg (fun n => some (SV.v (h.val n))) (by simp))) rfl rfl rfl ⟨rfl, rfl⟩ (rdOwnAt 0 rfl) ys.length rfl (hlt _) (fun ad0 => ?_)
     rw [app_get]
     refine stop_shift (.splitO 1 (L := opSO x) (G' := (ys ++ zs).flatMap opSO) rfl (perm_out opSO ys zs x)) ?_
     refine stop_callG _ [0] (G := [_]) cl152 rfl rfl rfl rfl ⟨rfl, rfl⟩ ⟨rfl, trivial⟩ ⟨rfl, rfl, trivial⟩ (fun A w hW => (markOpS_c _ _ (c) w (hW.atG [0] (G := [_]) ⟨rfl, trivial⟩ rfl ⟨rfl, rfl, trivial⟩ [] (Fo := []) trivial rfl) z87 (by omega))) ?_
     rintro v L ⟨rfl, rfl⟩
     have hwj := e_succ ys.length xs.length (by omega) (by omega)
     have hz : nxOpS c x = c + 3 * x.m.length := rfl
     generalize hzz : mkOpS c x = z
     have hwj2 : IntKind.i64.wrap ((ys.length : Int) + 1) = (((ys ++ [z]).length : Nat) : Int) := by rw [hwj]; simp
     have hl0 : h.val (ys ++ x :: zs).length = h.val ((ys ++ [z]) ++ zs).length := congrArg h.val (by simp)
     have hrow : own h 89 cOpSH 1 (ys ++ x :: zs) = own h 89 cOpSH 1 ((ys ++ [z]) ++ zs) := by
       subst hzz
       have e1 : cells cOpSH (ys ++ x :: zs) = cells cOpSH ((ys ++ [mkOpS c x]) ++ zs) := by simp [cells, cOpSH, mkOpS, marksOp_len]
       have e2 : (ys ++ x :: zs).length = ((ys ++ [mkOpS c x]) ++ zs).length := by simp
       rw [own_eq e1 e2]
     refine ⟨⟨(ys ++ [z], zs, nxOpS c x), by rw [i1, ← hzz]; simp [mkL], by rw [i2]; rfl, by simp; omega, fun y hy => i4 y z109, by simp only; omega⟩, ?_, by simp⟩
     refine weak_shift (.joinO [0, 1] (Gs := [[_], _]) z138 rfl (G := ((ys ++ [z]) ++ zs).flatMap opSO) (.trans (.of_eq (by rw [← hzz]; simp [opSO, mkOpS])) (perm_in opSO ys zs z))) ?_
     exact weak_mk [1, 0] zw7 zw0 zw7 zw5 zw18 rfl rfl
 · cases zs with
   | nil =>
     simp only [mkL, List.append_nil] at i1
     simp only [nxL] at i2
     have hyl : ys.length = xs.length := by simpa using i3
     simp only [List.append_nil]
     refine retG_shift (.joinO [0, 1] (Gs := [[_], _]) z138 rfl (G := threadsO h ys) (.of_eq (by simp [threadsO, nestO]))) ?_
     exact retG [0] (L := [fO (threadsO h ys)]) ⟨congrArg (fun z : Nat => Value.int .i64 (z : Int)) i2.symm, by rw [i1]⟩ z146 rfl ⟨rfl, trivial⟩ (fun _ => rfl)
   | cons x zs => simp at g; omega
def atProg0 (k : Nat) (s : ProgH) : Nat := k + s.sems.length
def atProg1 (k : Nat) (s : ProgH) : Nat := (atProg0 k s) + s.groups.length
def atProg2 (k : Nat) (s : ProgH) : Nat := (atProg1 k s) + s.barriers.length
def atProg3 (k : Nat) (s : ProgH) : Nat := (atProg2 k s) + s.rooms.length
def atProg4 (k : Nat) (s : ProgH) : Nat := nxL nxOpS (atProg3 k s) s.threads
def mkProg (k : Nat) (s : ProgH) : ProgH := { s with sems := marks (k) s.sems.length, groups := marks (atProg0 k s) s.groups.length, barriers := marks (atProg1 k s) s.barriers.length, rooms := marks (atProg2 k s) s.rooms.length, threads := mkL mkOpS nxOpS (atProg3 k s) s.threads }
set_option maxHeartbeats 16000000 in
set_option maxRecDepth 100000 in
theorem markProg_c (s : ProgH) (k : Nat) (w : World) (hh : AtG w [fO (progO s)] []) (hb : s.pure.small20) (hk : k ≤ 36028797018963968) :
   Calls Tryz.prog 20 #[progV s, .int .i64 (k : Int)] w (RetG w [fO (progO s)] fun v L => v = .int .i64 ((atProg4 k s : Nat) : Int) ∧ L = [fO (progO (mkProg k s))]) := by
 obtain ⟨b0, b1, b2, b3, b4⟩ := hb
 have t0 : atProg0 k s = k + s.sems.length := rfl
 have t1 : atProg1 k s = atProg0 k s + s.groups.length := rfl
 have t2 : atProg2 k s = atProg1 k s + s.barriers.length := rfl
 have t3 : atProg3 k s = atProg2 k s + s.rooms.length := rfl
 have t4 : atProg4 k s ≤ atProg3 k s + s.threads.length * 8388608 := nxL_le (P := fun x => OpS.small20 x.m) (fun c x h => nxOpS_le c x h) _ _ (allS_map b4).2
 have s0 : s.sems.length ≤ 1048576 := b0
 have s1 : s.groups.length ≤ 1048576 := b1
 have s2 : s.barriers.length ≤ 1048576 := b2
 have s3 : s.rooms.length ≤ 1048576 := b3
 have s4 := (allS_map b4).1
 refine callsG_fn Tryz.func20 rfl tabOk w _ rfl _ rfl _ _ hh trivial _ _ rfl rfl ?_
 refine stop_shift (.splitO 0 (L := [own s.h0 3 cInt 1 s.sems, own s.h1 3 cInt 1 s.groups, own s.h2 3 cInt 1 s.barriers, own s.h3 3 cInt 1 s.rooms]) (G' := threadsO s.h4 s.threads) rfl (.of_eq (by simp [progO]))) ?_
 refine stop_callG _ [0] (G := [_]) cl37 rfl rfl rfl rfl ⟨rfl, rfl⟩ ⟨rfl, trivial⟩ ⟨rfl, rfl, trivial⟩ (fun A w hW => (markIntS_c s.h0 s.sems (k) w (hW.atG [0] (G := [_]) ⟨rfl, trivial⟩ rfl ⟨rfl, rfl, trivial⟩ [] (Fo := []) trivial rfl) (Nat.le_trans b0 (by decide)) (by omega))) ?_
 rintro v L ⟨rfl, rfl⟩
 refine stop_callG _ [1] (G := [_]) cl37 rfl rfl rfl rfl ⟨rfl, rfl⟩ ⟨rfl, trivial⟩ ⟨rfl, rfl, trivial⟩ (fun A w hW => (markIntS_c s.h1 s.groups (atProg0 k s) w (hW.atG [1] (G := [_]) ⟨rfl, trivial⟩ rfl ⟨rfl, rfl, trivial⟩ [] (Fo := []) trivial rfl) (Nat.le_trans b1 (by decide)) (by omega))) ?_
 rintro v L ⟨rfl, rfl⟩
 refine stop_callG _ [2] (G := [_]) cl37 rfl rfl rfl rfl ⟨rfl, rfl⟩ ⟨rfl, trivial⟩ ⟨rfl, rfl, trivial⟩ (fun A w hW => (markIntS_c s.h2 s.barriers (atProg1 k s) w (hW.atG [2] (G := [_]) ⟨rfl, trivial⟩ rfl ⟨rfl, rfl, trivial⟩ [] (Fo := []) trivial rfl) (Nat.le_trans b2 (by decide)) (by omega))) ?_
 rintro v L ⟨rfl, rfl⟩
 refine stop_callG _ [3] (G := [_]) cl37 rfl rfl rfl rfl ⟨rfl, rfl⟩ ⟨rfl, trivial⟩ ⟨rfl, rfl, trivial⟩ (fun A w hW => (markIntS_c s.h3 s.rooms (atProg2 k s) w (hW.atG [3] (G := [_]) ⟨rfl, trivial⟩ rfl ⟨rfl, rfl, trivial⟩ [] (Fo := []) trivial rfl) (Nat.le_trans b3 (by decide)) (by omega))) ?_
 rintro v L ⟨rfl, rfl⟩
 refine stop_callG _ [4] (G := [_]) cl83 rfl rfl rfl rfl ⟨rfl, rfl⟩ ⟨rfl, trivial⟩ ⟨rfl, rfl, trivial⟩ (fun A w hW => (markOpSS_c s.h4 s.threads (atProg3 k s) w (hW.atG [4] (G := [_]) ⟨rfl, trivial⟩ rfl ⟨rfl, rfl, trivial⟩ [] (Fo := []) trivial rfl) (allS_map b4).1 (allS_map b4).2 (by omega))) ?_
 rintro v L ⟨rfl, rfl⟩
 refine retG_shift (.joinO [4, 3, 2, 1, 0] (Gs := [[_], [_], [_], [_], _]) z121 rfl (G := progO (mkProg k s)) (.of_eq (by simp [progO, mkProg]))) ?_
 exact retG [0] ⟨rfl, rfl⟩ z146 rfl ⟨rfl, trivial⟩ (fun _ => rfl)
def mkSem (c : Nat) (x : SemH) : SemH := ⟨⟨((c : Nat) : Int), ((c + 1 : Nat) : Int), marksWaiter (c + 1 + 1) x.m.queue.length⟩, x.q⟩
def nxSem (c : Nat) (x : SemH) : Nat := c + 1 + 1 + 2 * x.m.queue.length
theorem nxSem_le (c : Nat) (x : SemH) (h : Sem.small20 x.m) : nxSem c x ≤ c + 8388608 := by
 unfold Sem.small20 at h
 unfold nxSem
 omega
set_option maxHeartbeats 16000000 in
set_option maxRecDepth 100000 in
theorem markSemS_c (h : Sl) (xs : List SemH) (k : Nat) (w : World) (hh : AtG w [fO (semsO h xs)] []) (hl : xs.length ≤ 1048576) (hb : ∀ x ∈ xs, Sem.small20 x.m) (hk : k ≤ 144115188075855872) :
   Calls Tryz.prog 84 #[h.val xs.length, .int .i64 (k : Int)] w (RetG w [fO (semsO h xs)] fun v L => v = .int .i64 ((nxL nxSem k xs : Nat) : Int) ∧ L = [fO (semsO h (mkL mkSem nxSem k xs))]) := by
 refine callsG_fn Tryz.func84 rfl tabOk w _ rfl _ rfl _ _ hh trivial _ _ rfl rfl ?_
 refine LoopW.mk ⟨{ p : List SemH × List SemH × Nat // mkL mkSem nxSem k xs = p.1 ++ mkL mkSem nxSem p.2.2 p.2.1 ∧ nxL nxSem k xs = nxL nxSem p.2.2 p.2.1 ∧ p.1.length + p.2.1.length = xs.length ∧ (∀ x ∈ p.2.1, Sem.small20 x.m) ∧ p.2.2 + p.2.1.length * 8388608 ≤ 288230376151711744 },
   fun p => .mk [(0, .v (h.val (p.1.1 ++ p.1.2.1).length)), (1, .v (.int .i64 (p.1.2.2 : Int))), (5, .v (.int .i64 (p.1.1.length : Int)))] 0 0 [] [] [own h 95 cSemH 3 (p.1.1 ++ p.1.2.1), fO ((p.1.1 ++ p.1.2.1).flatMap semO)],
   fun p => p.1.2.1.length, ⟨([], xs, k), by simp, rfl, by simp, hb, by simp only; omega⟩, ?_, ?_⟩
 · refine weak_shift (.splitO 0 (L := [own h 95 cSemH 3 xs]) (G' := xs.flatMap semO) rfl (.of_eq rfl)) ?_
   exact weak_mk [0, 1] zw2 zw0 zw2 zw5 zw4 rfl rfl
 rintro ⟨⟨ys, zs, c⟩, i1, i2, i3, i4, i5⟩
 simp only at i1 i2 i3 i4 i5
 apply CaseB.mk <;> intro g
 · cases zs with
   | nil => simp at g
   | cons x zs =>
     simp only [List.length_cons] at i3 i5
     have hx := i4 x (by simp)
     have hnx := nxSem_le c x hx
     unfold Sem.small20 at hx
     have hlt : ∀ y : SemH, ys.length < (ys ++ y :: zs).length := fun y => by simp
     refine stop_idxW encSemH 0 tabOk rfl rfl rfl rfl rfl ⟨rfl, rfl⟩ rfl z90 ys.length rfl (hlt _) (fun g0 hg0 => ?_)
     refine stop_fldW tabOk rfl rfl rfl rfl ⟨rfl, rfl⟩ ?_
     refine stop_storeW encSemH 0 tabOk rfl rfl rfl rfl rfl rfl rfl rfl hg0 ys.length 0 (⟨⟨((c : Nat) : Int), x.m.limit, x.m.queue⟩, x.q⟩ : SemH) rfl (hlt _) rfl [.int .i64 ((c : Nat) : Int)] (fun _ => rfl) (by simp [cSemH]) ?_
     rw [app_set]
     have hw1 : IntKind.i64.wrap (((c : Nat) : Int) + 1) = ((c + 1 : Nat) : Int) := e_succ (c) (c + 1) (by omega) (by omega)
     refine stop_eq 1 rfl (congrArg (Value.int .i64) hw1) ?_
     refine stop_idxW encSemH 0 tabOk rfl rfl rfl rfl rfl ⟨rfl, rfl⟩ rfl z90 ys.length rfl (hlt _) (fun g1 hg1 => ?_)
     refine stop_fldW tabOk rfl rfl rfl rfl ⟨rfl, rfl⟩ ?_
     refine stop_storeW encSemH 0 tabOk rfl rfl rfl rfl rfl rfl rfl rfl hg1 ys.length 1 (⟨⟨((c : Nat) : Int), ((c + 1 : Nat) : Int), x.m.queue⟩, x.q⟩ : SemH) rfl (hlt _) rfl [.int .i64 ((c + 1 : Nat) : Int)] (fun _ => by simp only [List.map_cons, List.map_nil, SV.den, hw1]) (by simp [cSemH]) ?_
     rw [app_set]
     have hw2 : IntKind.i64.wrap (((c + 1 : Nat) : Int) + 1) = ((c + 1 + 1 : Nat) : Int) := e_succ (c + 1) (c + 1 + 1) (by omega) (by omega)
     refine stop_eq 1 rfl (congrArg (Value.int .i64) hw2) ?_
     refine stop_idx encSemH (xs := ys ++ (⟨⟨((c : Nat) : Int), ((c + 1 : Nat) : Int), x.m.queue⟩, x.q⟩ : SemH) :: zs) tabOk rfl (Eq.trans rfl (congrArg (fun n => some (SV.v (h.val n))) (by simp))) rfl rfl rfl ⟨rfl, rfl⟩ (rdOwnAt 0 rfl) ys.length rfl (hlt _) (fun ad2 => ?_)
     rw [app_get]
     refine stop_shift (.splitO 1 (L := semO x) (G' := (ys ++ zs).flatMap semO) rfl (perm_out semO ys zs x)) ?_
     refine stop_callG _ [0] (G := [_]) cl153 rfl rfl rfl rfl ⟨rfl, rfl⟩ ⟨rfl, trivial⟩ ⟨rfl, rfl, trivial⟩ (fun A w hW => (markWaiterS_c _ _ (c + 1 + 1) w (hW.atG [0] (G := [_]) ⟨rfl, trivial⟩ rfl ⟨rfl, rfl, trivial⟩ [] (Fo := []) trivial rfl) z87 (by omega))) ?_
     rintro v L ⟨rfl, rfl⟩
     have hwj := e_succ ys.length xs.length (by omega) (by omega)
     have hz : nxSem c x = c + 1 + 1 + 2 * x.m.queue.length := rfl
     generalize hzz : mkSem c x = z
     have hwj2 : IntKind.i64.wrap ((ys.length : Int) + 1) = (((ys ++ [z]).length : Nat) : Int) := by rw [hwj]; simp
     have hl0 : h.val (ys ++ x :: zs).length = h.val ((ys ++ [z]) ++ zs).length := congrArg h.val (by simp)
     have hrow : own h 95 cSemH 3 (ys ++ (⟨⟨((c : Nat) : Int), ((c + 1 : Nat) : Int), x.m.queue⟩, x.q⟩ : SemH) :: zs) = own h 95 cSemH 3 ((ys ++ [z]) ++ zs) := by
       subst hzz
       have e1 : cells cSemH (ys ++ (⟨⟨((c : Nat) : Int), ((c + 1 : Nat) : Int), x.m.queue⟩, x.q⟩ : SemH) :: zs) = cells cSemH ((ys ++ [mkSem c x]) ++ zs) := by simp [cells, cSemH, mkSem, marksWaiter_len]
       have e2 : (ys ++ (⟨⟨((c : Nat) : Int), ((c + 1 : Nat) : Int), x.m.queue⟩, x.q⟩ : SemH) :: zs).length = ((ys ++ [mkSem c x]) ++ zs).length := by simp
       rw [own_eq e1 e2]
     refine ⟨⟨(ys ++ [z], zs, nxSem c x), by rw [i1, ← hzz]; simp [mkL], by rw [i2]; rfl, by simp; omega, fun y hy => i4 y z109, by simp only; omega⟩, ?_, by simp⟩
     refine weak_shift (.joinO [0, 1] (Gs := [[_], _]) z138 rfl (G := ((ys ++ [z]) ++ zs).flatMap semO) (.trans (.of_eq (by rw [← hzz]; simp [semO, mkSem])) (perm_in semO ys zs z))) ?_
     exact weak_mk [1, 0] zw7 zw0 zw7 zw5 zw18 rfl rfl
 · cases zs with
   | nil =>
     simp only [mkL, List.append_nil] at i1
     simp only [nxL] at i2
     have hyl : ys.length = xs.length := by simpa using i3
     simp only [List.append_nil]
     refine retG_shift (.joinO [0, 1] (Gs := [[_], _]) z138 rfl (G := semsO h ys) (.of_eq (by simp [semsO, nestO]))) ?_
     exact retG [0] (L := [fO (semsO h ys)]) ⟨congrArg (fun z : Nat => Value.int .i64 (z : Int)) i2.symm, by rw [i1]⟩ z146 rfl ⟨rfl, trivial⟩ (fun _ => rfl)
   | cons x zs => simp at g; omega
set_option maxHeartbeats 16000000 in
set_option maxRecDepth 100000 in
theorem heldSemS_c (h : Sl) (xs : List SemH) (k : Nat) (w : World) (hh : At w [fR (semsO h (mkL mkSem nxSem k xs))]) (hl : xs.length ≤ 1048576) (hb : ∀ x ∈ xs, Sem.small20 x.m) (hk : k ≤ 144115188075855872) :
   Calls Tryz.prog 89 #[h.val (mkL mkSem nxSem k xs).length, .int .i64 (k : Int)] w (Ret w fun v L => v = .int .i64 ((nxL nxSem k xs : Nat) : Int) ∧ L = []) := by
 obtain ⟨R, hR⟩ : ∃ R, R = mkL mkSem nxSem k xs := ⟨_, rfl⟩
 have hRl : R.length = xs.length := by rw [hR]; exact mkL_len _ _ _ _
 rw [← hR] at hh ⊢
 refine calls2 Tryz.func89 rfl tabOk w _ rfl _ rfl _ hh ⟨rfl, rfl, trivial⟩ _ _ (by decide) ?_
 refine LoopW.mk ⟨{ p : Nat × List SemH × Nat // R.drop p.1 = mkL mkSem nxSem p.2.2 p.2.1 ∧ nxL nxSem k xs = nxL nxSem p.2.2 p.2.1 ∧ p.1 + p.2.1.length = R.length ∧ (∀ x ∈ p.2.1, Sem.small20 x.m) ∧ p.2.2 + p.2.1.length * 8388608 ≤ 288230376151711744 },
   fun p => .mk [(0, .v (h.val R.length)), (1, .v (.int .i64 (p.1.2.2 : Int))), (5, .v (.int .i64 (p.1.1 : Int)))] 0 0 [] [] [fR (semsO h R)],
   fun p => p.1.2.1.length, ⟨(0, xs, k), by rw [hR]; rfl, rfl, by simp [hRl], hb, by simp only; omega⟩, ?_, ?_⟩
 · exact weak_mk [0] zw2 zw0 zw2 zw5 zw4 rfl rfl
 rintro ⟨⟨j, zs, c⟩, i1, i2, i3, i4, i5⟩
 simp only at i1 i2 i3 i4 i5
 apply CaseB.mk <;> intro g
 · have hlt : j < R.length := by simpa using g
   cases zs with
   | nil => simp at i3; omega
   | cons x zs =>
     simp only [List.length_cons] at i3 i5
     have hx := i4 x (by simp)
     have hnx := nxSem_le c x hx
     unfold Sem.small20 at hx
     rw [List.drop_eq_getElem_cons hlt] at i1
     simp only [mkL, List.cons.injEq] at i1
     obtain ⟨hv, i1⟩ := i1
     refine stop_idx encSemH tabOk rfl rfl rfl rfl rfl ⟨rfl, rfl⟩ (rdVia 0 rfl (.ofR nest_h)) j rfl hlt (fun ad0 => ?_)
     rw [hv]
     refine CaseB.mk (fun g => by simp [mkSem] at g) (fun _ => ?_)
     have hw1 : IntKind.i64.wrap (((c : Nat) : Int) + 1) = ((c + 1 : Nat) : Int) := e_succ (c) (c + 1) (by omega) (by omega)
     refine stop_eq 1 rfl (congrArg (Value.int .i64) hw1) ?_
     refine stop_idx encSemH tabOk rfl rfl rfl rfl rfl ⟨rfl, rfl⟩ (rdVia 0 rfl (.ofR nest_h)) j rfl hlt (fun ad1 => ?_)
     rw [hv]
     refine CaseB.mk (fun g => by simp [mkSem] at g) (fun _ => ?_)
     have hw2 : IntKind.i64.wrap (((c + 1 : Nat) : Int) + 1) = ((c + 1 + 1 : Nat) : Int) := e_succ (c + 1) (c + 1 + 1) (by omega) (by omega)
     refine stop_eq 1 rfl (congrArg (Value.int .i64) hw2) ?_
     refine stop_idx encSemH tabOk rfl rfl rfl rfl rfl ⟨rfl, rfl⟩ (rdVia 0 rfl (.ofR nest_h)) j rfl hlt (fun ad2 => ?_)
     rw [hv]
     have hr0 := semsO_0 h R j hlt
     rw [hv] at hr0
     refine stop_call _ cl155 rfl rfl rfl rfl ⟨rfl, rfl⟩ (fun A w hW => heldWaiterS_c _ (c + 1 + 1) x.m.queue.length w ⟨hW.get 0 rfl (.ofR hr0), trivial⟩ (by omega) (by omega)) ?_
     rintro v L ⟨rfl, rfl⟩
     refine CaseB.mk (fun g => by simp at g; omega) (fun _ => ?_)
     have hwj := e_succ j R.length hlt (by omega)
     refine ⟨⟨(j + 1, zs, nxSem c x), i1, by rw [i2]; rfl, by simp only; omega, fun y hy => i4 y z109, by simp only; omega⟩, ?_, by simp⟩
     exact weak_mk [0] zw11 zw0 zw11 zw5 zw24 rfl rfl
 · have hge : R.length ≤ j := by simpa using g
   cases zs with
   | nil => exact ret0 ⟨congrArg (fun z : Nat => Value.int .i64 (z : Int)) i2.symm, rfl⟩ (fun _ => rfl)
   | cons x zs => simp at i3; omega
def mkOnce (c : Nat) (x : OnceH) : OnceH := ⟨⟨((c : Nat) : Int), ((c + 1 : Nat) : Int), ((c + 1 + 1 : Nat) : Int), marks (c + 1 + 1 + 1) x.m.waits.length⟩, x.q⟩
def nxOnce (c : Nat) (x : OnceH) : Nat := c + 1 + 1 + 1 + x.m.waits.length
theorem nxOnce_le (c : Nat) (x : OnceH) (h : Once.small20 x.m) : nxOnce c x ≤ c + 8388608 := by
 unfold Once.small20 at h
 unfold nxOnce
 omega
set_option maxHeartbeats 16000000 in
set_option maxRecDepth 100000 in
theorem markOnceS_c (h : Sl) (xs : List OnceH) (k : Nat) (w : World) (hh : AtG w [fO (oncesO h xs)] []) (hl : xs.length ≤ 1048576) (hb : ∀ x ∈ xs, Once.small20 x.m) (hk : k ≤ 144115188075855872) :
   Calls Tryz.prog 85 #[h.val xs.length, .int .i64 (k : Int)] w (RetG w [fO (oncesO h xs)] fun v L => v = .int .i64 ((nxL nxOnce k xs : Nat) : Int) ∧ L = [fO (oncesO h (mkL mkOnce nxOnce k xs))]) := by
 refine callsG_fn Tryz.func85 rfl tabOk w _ rfl _ rfl _ _ hh trivial _ _ rfl rfl ?_
 refine LoopW.mk ⟨{ p : List OnceH × List OnceH × Nat // mkL mkOnce nxOnce k xs = p.1 ++ mkL mkOnce nxOnce p.2.2 p.2.1 ∧ nxL nxOnce k xs = nxL nxOnce p.2.2 p.2.1 ∧ p.1.length + p.2.1.length = xs.length ∧ (∀ x ∈ p.2.1, Once.small20 x.m) ∧ p.2.2 + p.2.1.length * 8388608 ≤ 288230376151711744 },
   fun p => .mk [(0, .v (h.val (p.1.1 ++ p.1.2.1).length)), (1, .v (.int .i64 (p.1.2.2 : Int))), (5, .v (.int .i64 (p.1.1.length : Int)))] 0 0 [] [] [own h 102 cOnceH 4 (p.1.1 ++ p.1.2.1), fO ((p.1.1 ++ p.1.2.1).flatMap onceO)],
   fun p => p.1.2.1.length, ⟨([], xs, k), by simp, rfl, by simp, hb, by simp only; omega⟩, ?_, ?_⟩
 · refine weak_shift (.splitO 0 (L := [own h 102 cOnceH 4 xs]) (G' := xs.flatMap onceO) rfl (.of_eq rfl)) ?_
   exact weak_mk [0, 1] zw2 zw0 zw2 zw5 zw4 rfl rfl
 rintro ⟨⟨ys, zs, c⟩, i1, i2, i3, i4, i5⟩
 simp only at i1 i2 i3 i4 i5
 apply CaseB.mk <;> intro g
 · cases zs with
   | nil => simp at g
   | cons x zs =>
     simp only [List.length_cons] at i3 i5
     have hx := i4 x (by simp)
     have hnx := nxOnce_le c x hx
     unfold Once.small20 at hx
     have hlt : ∀ y : OnceH, ys.length < (ys ++ y :: zs).length := fun y => by simp
     refine stop_idxW encOnceH 0 tabOk rfl rfl rfl rfl rfl ⟨rfl, rfl⟩ rfl z90 ys.length rfl (hlt _) (fun g0 hg0 => ?_)
     refine stop_fldW tabOk rfl rfl rfl rfl ⟨rfl, rfl⟩ ?_
     refine stop_storeW encOnceH 0 tabOk rfl rfl rfl rfl rfl rfl rfl rfl hg0 ys.length 0 (⟨⟨((c : Nat) : Int), x.m.owner, x.m.value, x.m.waits⟩, x.q⟩ : OnceH) rfl (hlt _) rfl [.int .i64 ((c : Nat) : Int)] (fun _ => rfl) (by simp [cOnceH]) ?_
     rw [app_set]
     have hw1 : IntKind.i64.wrap (((c : Nat) : Int) + 1) = ((c + 1 : Nat) : Int) := e_succ (c) (c + 1) (by omega) (by omega)
     refine stop_eq 1 rfl (congrArg (Value.int .i64) hw1) ?_
     refine stop_idxW encOnceH 0 tabOk rfl rfl rfl rfl rfl ⟨rfl, rfl⟩ rfl z90 ys.length rfl (hlt _) (fun g1 hg1 => ?_)
     refine stop_fldW tabOk rfl rfl rfl rfl ⟨rfl, rfl⟩ ?_
     refine stop_storeW encOnceH 0 tabOk rfl rfl rfl rfl rfl rfl rfl rfl hg1 ys.length 1 (⟨⟨((c : Nat) : Int), ((c + 1 : Nat) : Int), x.m.value, x.m.waits⟩, x.q⟩ : OnceH) rfl (hlt _) rfl [.int .i64 ((c + 1 : Nat) : Int)] (fun _ => by simp only [List.map_cons, List.map_nil, SV.den, hw1]) (by simp [cOnceH]) ?_
     rw [app_set]
     have hw2 : IntKind.i64.wrap (((c + 1 : Nat) : Int) + 1) = ((c + 1 + 1 : Nat) : Int) := e_succ (c + 1) (c + 1 + 1) (by omega) (by omega)
     refine stop_eq 1 rfl (congrArg (Value.int .i64) hw2) ?_
     refine stop_idxW encOnceH 0 tabOk rfl rfl rfl rfl rfl ⟨rfl, rfl⟩ rfl z90 ys.length rfl (hlt _) (fun g2 hg2 => ?_)
     refine stop_fldW tabOk rfl rfl rfl rfl ⟨rfl, rfl⟩ ?_
     refine stop_storeW encOnceH 0 tabOk rfl rfl rfl rfl rfl rfl rfl rfl hg2 ys.length 2 (⟨⟨((c : Nat) : Int), ((c + 1 : Nat) : Int), ((c + 1 + 1 : Nat) : Int), x.m.waits⟩, x.q⟩ : OnceH) rfl (hlt _) rfl [.int .i64 ((c + 1 + 1 : Nat) : Int)] (fun _ => by simp only [List.map_cons, List.map_nil, SV.den, hw2]) (by simp [cOnceH]) ?_
     rw [app_set]
     have hw3 : IntKind.i64.wrap (((c + 1 + 1 : Nat) : Int) + 1) = ((c + 1 + 1 + 1 : Nat) : Int) := e_succ (c + 1 + 1) (c + 1 + 1 + 1) (by omega) (by omega)
     refine stop_eq 1 rfl (congrArg (Value.int .i64) hw3) ?_
     refine stop_idx encOnceH (xs := ys ++ (⟨⟨((c : Nat) : Int), ((c + 1 : Nat) : Int), ((c + 1 + 1 : Nat) : Int), x.m.waits⟩, x.q⟩ : OnceH) :: zs) tabOk rfl (Eq.trans rfl (congrArg (fun n => some (SV.v (h.val n))) (by simp))) rfl rfl rfl ⟨rfl, rfl⟩ (rdOwnAt 0 rfl) ys.length rfl (hlt _) (fun ad3 => ?_)
     rw [app_get]
     refine stop_shift (.splitO 1 (L := onceO x) (G' := (ys ++ zs).flatMap onceO) rfl (perm_out onceO ys zs x)) ?_
     refine stop_callG _ [0] (G := [_]) cl37 rfl rfl rfl rfl ⟨rfl, rfl⟩ ⟨rfl, trivial⟩ ⟨rfl, rfl, trivial⟩ (fun A w hW => (markIntS_c _ _ (c + 1 + 1 + 1) w (hW.atG [0] (G := [_]) ⟨rfl, trivial⟩ rfl ⟨rfl, rfl, trivial⟩ [] (Fo := []) trivial rfl) z87 (by omega))) ?_
     rintro v L ⟨rfl, rfl⟩
     have hwj := e_succ ys.length xs.length (by omega) (by omega)
     have hz : nxOnce c x = c + 1 + 1 + 1 + x.m.waits.length := rfl
     generalize hzz : mkOnce c x = z
     have hwj2 : IntKind.i64.wrap ((ys.length : Int) + 1) = (((ys ++ [z]).length : Nat) : Int) := by rw [hwj]; simp
     have hl0 : h.val (ys ++ x :: zs).length = h.val ((ys ++ [z]) ++ zs).length := congrArg h.val (by simp)
     have hrow : own h 102 cOnceH 4 (ys ++ (⟨⟨((c : Nat) : Int), ((c + 1 : Nat) : Int), ((c + 1 + 1 : Nat) : Int), x.m.waits⟩, x.q⟩ : OnceH) :: zs) = own h 102 cOnceH 4 ((ys ++ [z]) ++ zs) := by
       subst hzz
       have e1 : cells cOnceH (ys ++ (⟨⟨((c : Nat) : Int), ((c + 1 : Nat) : Int), ((c + 1 + 1 : Nat) : Int), x.m.waits⟩, x.q⟩ : OnceH) :: zs) = cells cOnceH ((ys ++ [mkOnce c x]) ++ zs) := by simp [cells, cOnceH, mkOnce, marks_len]
       have e2 : (ys ++ (⟨⟨((c : Nat) : Int), ((c + 1 : Nat) : Int), ((c + 1 + 1 : Nat) : Int), x.m.waits⟩, x.q⟩ : OnceH) :: zs).length = ((ys ++ [mkOnce c x]) ++ zs).length := by simp
       rw [own_eq e1 e2]
     refine ⟨⟨(ys ++ [z], zs, nxOnce c x), by rw [i1, ← hzz]; simp [mkL], by rw [i2]; rfl, by simp; omega, fun y hy => i4 y z109, by simp only; omega⟩, ?_, by simp⟩
     refine weak_shift (.joinO [0, 1] (Gs := [[_], _]) z138 rfl (G := ((ys ++ [z]) ++ zs).flatMap onceO) (.trans (.of_eq (by rw [← hzz]; simp [onceO, mkOnce])) (perm_in onceO ys zs z))) ?_
     exact weak_mk [1, 0] zw7 zw0 zw7 zw5 zw18 rfl rfl
 · cases zs with
   | nil =>
     simp only [mkL, List.append_nil] at i1
     simp only [nxL] at i2
     have hyl : ys.length = xs.length := by simpa using i3
     simp only [List.append_nil]
     refine retG_shift (.joinO [0, 1] (Gs := [[_], _]) z138 rfl (G := oncesO h ys) (.of_eq (by simp [oncesO, nestO]))) ?_
     exact retG [0] (L := [fO (oncesO h ys)]) ⟨congrArg (fun z : Nat => Value.int .i64 (z : Int)) i2.symm, by rw [i1]⟩ z146 rfl ⟨rfl, trivial⟩ (fun _ => rfl)
   | cons x zs => simp at g; omega
set_option maxHeartbeats 16000000 in
set_option maxRecDepth 100000 in
theorem heldOnceS_c (h : Sl) (xs : List OnceH) (k : Nat) (w : World) (hh : At w [fR (oncesO h (mkL mkOnce nxOnce k xs))]) (hl : xs.length ≤ 1048576) (hb : ∀ x ∈ xs, Once.small20 x.m) (hk : k ≤ 144115188075855872) :
   Calls Tryz.prog 90 #[h.val (mkL mkOnce nxOnce k xs).length, .int .i64 (k : Int)] w (Ret w fun v L => v = .int .i64 ((nxL nxOnce k xs : Nat) : Int) ∧ L = []) := by
 obtain ⟨R, hR⟩ : ∃ R, R = mkL mkOnce nxOnce k xs := ⟨_, rfl⟩
 have hRl : R.length = xs.length := by rw [hR]; exact mkL_len _ _ _ _
 rw [← hR] at hh ⊢
 refine calls2 Tryz.func90 rfl tabOk w _ rfl _ rfl _ hh ⟨rfl, rfl, trivial⟩ _ _ (by decide) ?_
 refine LoopW.mk ⟨{ p : Nat × List OnceH × Nat // R.drop p.1 = mkL mkOnce nxOnce p.2.2 p.2.1 ∧ nxL nxOnce k xs = nxL nxOnce p.2.2 p.2.1 ∧ p.1 + p.2.1.length = R.length ∧ (∀ x ∈ p.2.1, Once.small20 x.m) ∧ p.2.2 + p.2.1.length * 8388608 ≤ 288230376151711744 },
   fun p => .mk [(0, .v (h.val R.length)), (1, .v (.int .i64 (p.1.2.2 : Int))), (5, .v (.int .i64 (p.1.1 : Int)))] 0 0 [] [] [fR (oncesO h R)],
   fun p => p.1.2.1.length, ⟨(0, xs, k), by rw [hR]; rfl, rfl, by simp [hRl], hb, by simp only; omega⟩, ?_, ?_⟩
 · exact weak_mk [0] zw2 zw0 zw2 zw5 zw4 rfl rfl
 rintro ⟨⟨j, zs, c⟩, i1, i2, i3, i4, i5⟩
 simp only at i1 i2 i3 i4 i5
 apply CaseB.mk <;> intro g
 · have hlt : j < R.length := by simpa using g
   cases zs with
   | nil => simp at i3; omega
   | cons x zs =>
     simp only [List.length_cons] at i3 i5
     have hx := i4 x (by simp)
     have hnx := nxOnce_le c x hx
     unfold Once.small20 at hx
     rw [List.drop_eq_getElem_cons hlt] at i1
     simp only [mkL, List.cons.injEq] at i1
     obtain ⟨hv, i1⟩ := i1
     refine stop_idx encOnceH tabOk rfl rfl rfl rfl rfl ⟨rfl, rfl⟩ (rdVia 0 rfl (.ofR nest_h)) j rfl hlt (fun ad0 => ?_)
     rw [hv]
     refine CaseB.mk (fun g => by simp [mkOnce] at g) (fun _ => ?_)
     have hw1 : IntKind.i64.wrap (((c : Nat) : Int) + 1) = ((c + 1 : Nat) : Int) := e_succ (c) (c + 1) (by omega) (by omega)
     refine stop_eq 1 rfl (congrArg (Value.int .i64) hw1) ?_
     refine stop_idx encOnceH tabOk rfl rfl rfl rfl rfl ⟨rfl, rfl⟩ (rdVia 0 rfl (.ofR nest_h)) j rfl hlt (fun ad1 => ?_)
     rw [hv]
     refine CaseB.mk (fun g => by simp [mkOnce] at g) (fun _ => ?_)
     have hw2 : IntKind.i64.wrap (((c + 1 : Nat) : Int) + 1) = ((c + 1 + 1 : Nat) : Int) := e_succ (c + 1) (c + 1 + 1) (by omega) (by omega)
     refine stop_eq 1 rfl (congrArg (Value.int .i64) hw2) ?_
     refine stop_idx encOnceH tabOk rfl rfl rfl rfl rfl ⟨rfl, rfl⟩ (rdVia 0 rfl (.ofR nest_h)) j rfl hlt (fun ad2 => ?_)
     rw [hv]
     refine CaseB.mk (fun g => by simp [mkOnce] at g) (fun _ => ?_)
     have hw3 : IntKind.i64.wrap (((c + 1 + 1 : Nat) : Int) + 1) = ((c + 1 + 1 + 1 : Nat) : Int) := e_succ (c + 1 + 1) (c + 1 + 1 + 1) (by omega) (by omega)
     refine stop_eq 1 rfl (congrArg (Value.int .i64) hw3) ?_
     refine stop_idx encOnceH tabOk rfl rfl rfl rfl rfl ⟨rfl, rfl⟩ (rdVia 0 rfl (.ofR nest_h)) j rfl hlt (fun ad3 => ?_)
     rw [hv]
     have hr0 := oncesO_0 h R j hlt
     rw [hv] at hr0
     refine stop_call _ cl38 rfl rfl rfl rfl ⟨rfl, rfl⟩ (fun A w hW => heldIntS_c _ (c + 1 + 1 + 1) x.m.waits.length w ⟨hW.get 0 rfl (.ofR hr0), trivial⟩ (by omega) (by omega)) ?_
     rintro v L ⟨rfl, rfl⟩
     refine CaseB.mk (fun g => by simp at g; omega) (fun _ => ?_)
     have hwj := e_succ j R.length hlt (by omega)
     refine ⟨⟨(j + 1, zs, nxOnce c x), i1, by rw [i2]; rfl, by simp only; omega, fun y hy => i4 y z109, by simp only; omega⟩, ?_, by simp⟩
     exact weak_mk [0] zw11 zw0 zw11 zw5 zw24 rfl rfl
 · have hge : R.length ≤ j := by simpa using g
   cases zs with
   | nil => exact ret0 ⟨congrArg (fun z : Nat => Value.int .i64 (z : Int)) i2.symm, rfl⟩ (fun _ => rfl)
   | cons x zs => simp at i3; omega
def mkGroup (c : Nat) (x : GroupH) : GroupH := ⟨⟨((c : Nat) : Int), marks (c + 1) x.m.waits.length⟩, x.q⟩
def nxGroup (c : Nat) (x : GroupH) : Nat := c + 1 + x.m.waits.length
theorem nxGroup_le (c : Nat) (x : GroupH) (h : Group.small20 x.m) : nxGroup c x ≤ c + 8388608 := by
 unfold Group.small20 at h
 unfold nxGroup
 omega
set_option maxHeartbeats 16000000 in
set_option maxRecDepth 100000 in
theorem markGroupS_c (h : Sl) (xs : List GroupH) (k : Nat) (w : World) (hh : AtG w [fO (groupsO h xs)] []) (hl : xs.length ≤ 1048576) (hb : ∀ x ∈ xs, Group.small20 x.m) (hk : k ≤ 144115188075855872) :
   Calls Tryz.prog 86 #[h.val xs.length, .int .i64 (k : Int)] w (RetG w [fO (groupsO h xs)] fun v L => v = .int .i64 ((nxL nxGroup k xs : Nat) : Int) ∧ L = [fO (groupsO h (mkL mkGroup nxGroup k xs))]) := by
 refine callsG_fn Tryz.func86 rfl tabOk w _ rfl _ rfl _ _ hh trivial _ _ rfl rfl ?_
 refine LoopW.mk ⟨{ p : List GroupH × List GroupH × Nat // mkL mkGroup nxGroup k xs = p.1 ++ mkL mkGroup nxGroup p.2.2 p.2.1 ∧ nxL nxGroup k xs = nxL nxGroup p.2.2 p.2.1 ∧ p.1.length + p.2.1.length = xs.length ∧ (∀ x ∈ p.2.1, Group.small20 x.m) ∧ p.2.2 + p.2.1.length * 8388608 ≤ 288230376151711744 },
   fun p => .mk [(0, .v (h.val (p.1.1 ++ p.1.2.1).length)), (1, .v (.int .i64 (p.1.2.2 : Int))), (5, .v (.int .i64 (p.1.1.length : Int)))] 0 0 [] [] [own h 108 cGroupH 2 (p.1.1 ++ p.1.2.1), fO ((p.1.1 ++ p.1.2.1).flatMap groupO)],
   fun p => p.1.2.1.length, ⟨([], xs, k), by simp, rfl, by simp, hb, by simp only; omega⟩, ?_, ?_⟩
 · refine weak_shift (.splitO 0 (L := [own h 108 cGroupH 2 xs]) (G' := xs.flatMap groupO) rfl (.of_eq rfl)) ?_
   exact weak_mk [0, 1] zw2 zw0 zw2 zw5 zw4 rfl rfl
 rintro ⟨⟨ys, zs, c⟩, i1, i2, i3, i4, i5⟩
 simp only at i1 i2 i3 i4 i5
 apply CaseB.mk <;> intro g
 · cases zs with
   | nil => simp at g
   | cons x zs =>
     simp only [List.length_cons] at i3 i5
     have hx := i4 x (by simp)
     have hnx := nxGroup_le c x hx
     unfold Group.small20 at hx
     have hlt : ∀ y : GroupH, ys.length < (ys ++ y :: zs).length := fun y => by simp
     refine stop_idxW encGroupH 0 tabOk rfl rfl rfl rfl rfl ⟨rfl, rfl⟩ rfl z90 ys.length rfl (hlt _) (fun g0 hg0 => ?_)
     refine stop_fldW tabOk rfl rfl rfl rfl ⟨rfl, rfl⟩ ?_
     refine stop_storeW encGroupH 0 tabOk rfl rfl rfl rfl rfl rfl rfl rfl hg0 ys.length 0 (⟨⟨((c : Nat) : Int), x.m.waits⟩, x.q⟩ : GroupH) rfl (hlt _) rfl [.int .i64 ((c : Nat) : Int)] (fun _ => rfl) (by simp [cGroupH]) ?_
     rw [app_set]
     have hw1 : IntKind.i64.wrap (((c : Nat) : Int) + 1) = ((c + 1 : Nat) : Int) := e_succ (c) (c + 1) (by omega) (by omega)
     refine stop_eq 1 rfl (congrArg (Value.int .i64) hw1) ?_
     refine stop_idx encGroupH (xs := ys ++ (⟨⟨((c : Nat) : Int), x.m.waits⟩, x.q⟩ : GroupH) :: zs) tabOk rfl (Eq.trans rfl (congrArg (fun n => some (SV.v (h.val n))) (by simp))) rfl rfl rfl ⟨rfl, rfl⟩ (rdOwnAt 0 rfl) ys.length rfl (hlt _) (fun ad1 => ?_)
     rw [app_get]
     refine stop_shift (.splitO 1 (L := groupO x) (G' := (ys ++ zs).flatMap groupO) rfl (perm_out groupO ys zs x)) ?_
     refine stop_callG _ [0] (G := [_]) cl37 rfl rfl rfl rfl ⟨rfl, rfl⟩ ⟨rfl, trivial⟩ ⟨rfl, rfl, trivial⟩ (fun A w hW => (markIntS_c _ _ (c + 1) w (hW.atG [0] (G := [_]) ⟨rfl, trivial⟩ rfl ⟨rfl, rfl, trivial⟩ [] (Fo := []) trivial rfl) z87 (by omega))) ?_
     rintro v L ⟨rfl, rfl⟩
     have hwj := e_succ ys.length xs.length (by omega) (by omega)
     have hz : nxGroup c x = c + 1 + x.m.waits.length := rfl
     generalize hzz : mkGroup c x = z
     have hwj2 : IntKind.i64.wrap ((ys.length : Int) + 1) = (((ys ++ [z]).length : Nat) : Int) := by rw [hwj]; simp
     have hl0 : h.val (ys ++ x :: zs).length = h.val ((ys ++ [z]) ++ zs).length := congrArg h.val (by simp)
     have hrow : own h 108 cGroupH 2 (ys ++ (⟨⟨((c : Nat) : Int), x.m.waits⟩, x.q⟩ : GroupH) :: zs) = own h 108 cGroupH 2 ((ys ++ [z]) ++ zs) := by
       subst hzz
       have e1 : cells cGroupH (ys ++ (⟨⟨((c : Nat) : Int), x.m.waits⟩, x.q⟩ : GroupH) :: zs) = cells cGroupH ((ys ++ [mkGroup c x]) ++ zs) := by simp [cells, cGroupH, mkGroup, marks_len]
       have e2 : (ys ++ (⟨⟨((c : Nat) : Int), x.m.waits⟩, x.q⟩ : GroupH) :: zs).length = ((ys ++ [mkGroup c x]) ++ zs).length := by simp
       rw [own_eq e1 e2]
     refine ⟨⟨(ys ++ [z], zs, nxGroup c x), by rw [i1, ← hzz]; simp [mkL], by rw [i2]; rfl, by simp; omega, fun y hy => i4 y z109, by simp only; omega⟩, ?_, by simp⟩
     refine weak_shift (.joinO [0, 1] (Gs := [[_], _]) z138 rfl (G := ((ys ++ [z]) ++ zs).flatMap groupO) (.trans (.of_eq (by rw [← hzz]; simp [groupO, mkGroup])) (perm_in groupO ys zs z))) ?_
     exact weak_mk [1, 0] zw7 zw0 zw7 zw5 zw18 rfl rfl
 · cases zs with
   | nil =>
     simp only [mkL, List.append_nil] at i1
     simp only [nxL] at i2
     have hyl : ys.length = xs.length := by simpa using i3
     simp only [List.append_nil]
     refine retG_shift (.joinO [0, 1] (Gs := [[_], _]) z138 rfl (G := groupsO h ys) (.of_eq (by simp [groupsO, nestO]))) ?_
     exact retG [0] (L := [fO (groupsO h ys)]) ⟨congrArg (fun z : Nat => Value.int .i64 (z : Int)) i2.symm, by rw [i1]⟩ z146 rfl ⟨rfl, trivial⟩ (fun _ => rfl)
   | cons x zs => simp at g; omega
set_option maxHeartbeats 16000000 in
set_option maxRecDepth 100000 in
theorem heldGroupS_c (h : Sl) (xs : List GroupH) (k : Nat) (w : World) (hh : At w [fR (groupsO h (mkL mkGroup nxGroup k xs))]) (hl : xs.length ≤ 1048576) (hb : ∀ x ∈ xs, Group.small20 x.m) (hk : k ≤ 144115188075855872) :
   Calls Tryz.prog 91 #[h.val (mkL mkGroup nxGroup k xs).length, .int .i64 (k : Int)] w (Ret w fun v L => v = .int .i64 ((nxL nxGroup k xs : Nat) : Int) ∧ L = []) := by
 obtain ⟨R, hR⟩ : ∃ R, R = mkL mkGroup nxGroup k xs := ⟨_, rfl⟩
 have hRl : R.length = xs.length := by rw [hR]; exact mkL_len _ _ _ _
 rw [← hR] at hh ⊢
 refine calls2 Tryz.func91 rfl tabOk w _ rfl _ rfl _ hh ⟨rfl, rfl, trivial⟩ _ _ (by decide) ?_
 refine LoopW.mk ⟨{ p : Nat × List GroupH × Nat // R.drop p.1 = mkL mkGroup nxGroup p.2.2 p.2.1 ∧ nxL nxGroup k xs = nxL nxGroup p.2.2 p.2.1 ∧ p.1 + p.2.1.length = R.length ∧ (∀ x ∈ p.2.1, Group.small20 x.m) ∧ p.2.2 + p.2.1.length * 8388608 ≤ 288230376151711744 },
   fun p => .mk [(0, .v (h.val R.length)), (1, .v (.int .i64 (p.1.2.2 : Int))), (5, .v (.int .i64 (p.1.1 : Int)))] 0 0 [] [] [fR (groupsO h R)],
   fun p => p.1.2.1.length, ⟨(0, xs, k), by rw [hR]; rfl, rfl, by simp [hRl], hb, by simp only; omega⟩, ?_, ?_⟩
 · exact weak_mk [0] zw2 zw0 zw2 zw5 zw4 rfl rfl
 rintro ⟨⟨j, zs, c⟩, i1, i2, i3, i4, i5⟩
 simp only at i1 i2 i3 i4 i5
 apply CaseB.mk <;> intro g
 · have hlt : j < R.length := by simpa using g
   cases zs with
   | nil => simp at i3; omega
   | cons x zs =>
     simp only [List.length_cons] at i3 i5
     have hx := i4 x (by simp)
     have hnx := nxGroup_le c x hx
     unfold Group.small20 at hx
     rw [List.drop_eq_getElem_cons hlt] at i1
     simp only [mkL, List.cons.injEq] at i1
     obtain ⟨hv, i1⟩ := i1
     refine stop_idx encGroupH tabOk rfl rfl rfl rfl rfl ⟨rfl, rfl⟩ (rdVia 0 rfl (.ofR nest_h)) j rfl hlt (fun ad0 => ?_)
     rw [hv]
     refine CaseB.mk (fun g => by simp [mkGroup] at g) (fun _ => ?_)
     have hw1 : IntKind.i64.wrap (((c : Nat) : Int) + 1) = ((c + 1 : Nat) : Int) := e_succ (c) (c + 1) (by omega) (by omega)
     refine stop_eq 1 rfl (congrArg (Value.int .i64) hw1) ?_
     refine stop_idx encGroupH tabOk rfl rfl rfl rfl rfl ⟨rfl, rfl⟩ (rdVia 0 rfl (.ofR nest_h)) j rfl hlt (fun ad1 => ?_)
     rw [hv]
     have hr0 := groupsO_0 h R j hlt
     rw [hv] at hr0
     refine stop_call _ cl38 rfl rfl rfl rfl ⟨rfl, rfl⟩ (fun A w hW => heldIntS_c _ (c + 1) x.m.waits.length w ⟨hW.get 0 rfl (.ofR hr0), trivial⟩ (by omega) (by omega)) ?_
     rintro v L ⟨rfl, rfl⟩
     refine CaseB.mk (fun g => by simp at g; omega) (fun _ => ?_)
     have hwj := e_succ j R.length hlt (by omega)
     refine ⟨⟨(j + 1, zs, nxGroup c x), i1, by rw [i2]; rfl, by simp only; omega, fun y hy => i4 y z109, by simp only; omega⟩, ?_, by simp⟩
     exact weak_mk [0] zw11 zw0 zw11 zw5 zw24 rfl rfl
 · have hge : R.length ≤ j := by simpa using g
   cases zs with
   | nil => exact ret0 ⟨congrArg (fun z : Nat => Value.int .i64 (z : Int)) i2.symm, rfl⟩ (fun _ => rfl)
   | cons x zs => simp at i3; omega
def mkBarrier (c : Nat) (x : BarrierH) : BarrierH := ⟨⟨((c : Nat) : Int), ((c + 1 : Nat) : Int), marks (c + 1 + 1) x.m.waits.length⟩, x.q⟩
def nxBarrier (c : Nat) (x : BarrierH) : Nat := c + 1 + 1 + x.m.waits.length
theorem nxBarrier_le (c : Nat) (x : BarrierH) (h : Barrier.small20 x.m) : nxBarrier c x ≤ c + 8388608 := by
 unfold Barrier.small20 at h
 unfold nxBarrier
 omega
set_option maxHeartbeats 16000000 in
set_option maxRecDepth 100000 in
theorem markBarrierS_c (h : Sl) (xs : List BarrierH) (k : Nat) (w : World) (hh : AtG w [fO (barriersO h xs)] []) (hl : xs.length ≤ 1048576) (hb : ∀ x ∈ xs, Barrier.small20 x.m) (hk : k ≤ 144115188075855872) :
   Calls Tryz.prog 87 #[h.val xs.length, .int .i64 (k : Int)] w (RetG w [fO (barriersO h xs)] fun v L => v = .int .i64 ((nxL nxBarrier k xs : Nat) : Int) ∧ L = [fO (barriersO h (mkL mkBarrier nxBarrier k xs))]) := by
 refine callsG_fn Tryz.func87 rfl tabOk w _ rfl _ rfl _ _ hh trivial _ _ rfl rfl ?_
 refine LoopW.mk ⟨{ p : List BarrierH × List BarrierH × Nat // mkL mkBarrier nxBarrier k xs = p.1 ++ mkL mkBarrier nxBarrier p.2.2 p.2.1 ∧ nxL nxBarrier k xs = nxL nxBarrier p.2.2 p.2.1 ∧ p.1.length + p.2.1.length = xs.length ∧ (∀ x ∈ p.2.1, Barrier.small20 x.m) ∧ p.2.2 + p.2.1.length * 8388608 ≤ 288230376151711744 },
   fun p => .mk [(0, .v (h.val (p.1.1 ++ p.1.2.1).length)), (1, .v (.int .i64 (p.1.2.2 : Int))), (5, .v (.int .i64 (p.1.1.length : Int)))] 0 0 [] [] [own h 114 cBarrierH 3 (p.1.1 ++ p.1.2.1), fO ((p.1.1 ++ p.1.2.1).flatMap barrierO)],
   fun p => p.1.2.1.length, ⟨([], xs, k), by simp, rfl, by simp, hb, by simp only; omega⟩, ?_, ?_⟩
 · refine weak_shift (.splitO 0 (L := [own h 114 cBarrierH 3 xs]) (G' := xs.flatMap barrierO) rfl (.of_eq rfl)) ?_
   exact weak_mk [0, 1] zw2 zw0 zw2 zw5 zw4 rfl rfl
 rintro ⟨⟨ys, zs, c⟩, i1, i2, i3, i4, i5⟩
 simp only at i1 i2 i3 i4 i5
 apply CaseB.mk <;> intro g
 · cases zs with
   | nil => simp at g
   | cons x zs =>
     simp only [List.length_cons] at i3 i5
     have hx := i4 x (by simp)
     have hnx := nxBarrier_le c x hx
     unfold Barrier.small20 at hx
     have hlt : ∀ y : BarrierH, ys.length < (ys ++ y :: zs).length := fun y => by simp
     refine stop_idxW encBarrierH 0 tabOk rfl rfl rfl rfl rfl ⟨rfl, rfl⟩ rfl z90 ys.length rfl (hlt _) (fun g0 hg0 => ?_)
     refine stop_fldW tabOk rfl rfl rfl rfl ⟨rfl, rfl⟩ ?_
     refine stop_storeW encBarrierH 0 tabOk rfl rfl rfl rfl rfl rfl rfl rfl hg0 ys.length 0 (⟨⟨((c : Nat) : Int), x.m.round, x.m.waits⟩, x.q⟩ : BarrierH) rfl (hlt _) rfl [.int .i64 ((c : Nat) : Int)] (fun _ => rfl) (by simp [cBarrierH]) ?_
     rw [app_set]
     have hw1 : IntKind.i64.wrap (((c : Nat) : Int) + 1) = ((c + 1 : Nat) : Int) := e_succ (c) (c + 1) (by omega) (by omega)
     refine stop_eq 1 rfl (congrArg (Value.int .i64) hw1) ?_
     refine stop_idxW encBarrierH 0 tabOk rfl rfl rfl rfl rfl ⟨rfl, rfl⟩ rfl z90 ys.length rfl (hlt _) (fun g1 hg1 => ?_)
     refine stop_fldW tabOk rfl rfl rfl rfl ⟨rfl, rfl⟩ ?_
     refine stop_storeW encBarrierH 0 tabOk rfl rfl rfl rfl rfl rfl rfl rfl hg1 ys.length 1 (⟨⟨((c : Nat) : Int), ((c + 1 : Nat) : Int), x.m.waits⟩, x.q⟩ : BarrierH) rfl (hlt _) rfl [.int .i64 ((c + 1 : Nat) : Int)] (fun _ => by simp only [List.map_cons, List.map_nil, SV.den, hw1]) (by simp [cBarrierH]) ?_
     rw [app_set]
     have hw2 : IntKind.i64.wrap (((c + 1 : Nat) : Int) + 1) = ((c + 1 + 1 : Nat) : Int) := e_succ (c + 1) (c + 1 + 1) (by omega) (by omega)
     refine stop_eq 1 rfl (congrArg (Value.int .i64) hw2) ?_
     refine stop_idx encBarrierH (xs := ys ++ (⟨⟨((c : Nat) : Int), ((c + 1 : Nat) : Int), x.m.waits⟩, x.q⟩ : BarrierH) :: zs) tabOk rfl (Eq.trans rfl (congrArg (fun n => some (SV.v (h.val n))) (by simp))) rfl rfl rfl ⟨rfl, rfl⟩ (rdOwnAt 0 rfl) ys.length rfl (hlt _) (fun ad2 => ?_)
     rw [app_get]
     refine stop_shift (.splitO 1 (L := barrierO x) (G' := (ys ++ zs).flatMap barrierO) rfl (perm_out barrierO ys zs x)) ?_
     refine stop_callG _ [0] (G := [_]) cl37 rfl rfl rfl rfl ⟨rfl, rfl⟩ ⟨rfl, trivial⟩ ⟨rfl, rfl, trivial⟩ (fun A w hW => (markIntS_c _ _ (c + 1 + 1) w (hW.atG [0] (G := [_]) ⟨rfl, trivial⟩ rfl ⟨rfl, rfl, trivial⟩ [] (Fo := []) trivial rfl) z87 (by omega))) ?_
     rintro v L ⟨rfl, rfl⟩
     have hwj := e_succ ys.length xs.length (by omega) (by omega)
     have hz : nxBarrier c x = c + 1 + 1 + x.m.waits.length := rfl
     generalize hzz : mkBarrier c x = z
     have hwj2 : IntKind.i64.wrap ((ys.length : Int) + 1) = (((ys ++ [z]).length : Nat) : Int) := by rw [hwj]; simp
     have hl0 : h.val (ys ++ x :: zs).length = h.val ((ys ++ [z]) ++ zs).length := congrArg h.val (by simp)
     have hrow : own h 114 cBarrierH 3 (ys ++ (⟨⟨((c : Nat) : Int), ((c + 1 : Nat) : Int), x.m.waits⟩, x.q⟩ : BarrierH) :: zs) = own h 114 cBarrierH 3 ((ys ++ [z]) ++ zs) := by
       subst hzz
       have e1 : cells cBarrierH (ys ++ (⟨⟨((c : Nat) : Int), ((c + 1 : Nat) : Int), x.m.waits⟩, x.q⟩ : BarrierH) :: zs) = cells cBarrierH ((ys ++ [mkBarrier c x]) ++ zs) := by simp [cells, cBarrierH, mkBarrier, marks_len]
       have e2 : (ys ++ (⟨⟨((c : Nat) : Int), ((c + 1 : Nat) : Int), x.m.waits⟩, x.q⟩ : BarrierH) :: zs).length = ((ys ++ [mkBarrier c x]) ++ zs).length := by simp
       rw [own_eq e1 e2]
     refine ⟨⟨(ys ++ [z], zs, nxBarrier c x), by rw [i1, ← hzz]; simp [mkL], by rw [i2]; rfl, by simp; omega, fun y hy => i4 y z109, by simp only; omega⟩, ?_, by simp⟩
     refine weak_shift (.joinO [0, 1] (Gs := [[_], _]) z138 rfl (G := ((ys ++ [z]) ++ zs).flatMap barrierO) (.trans (.of_eq (by rw [← hzz]; simp [barrierO, mkBarrier])) (perm_in barrierO ys zs z))) ?_
     exact weak_mk [1, 0] zw7 zw0 zw7 zw5 zw18 rfl rfl
 · cases zs with
   | nil =>
     simp only [mkL, List.append_nil] at i1
     simp only [nxL] at i2
     have hyl : ys.length = xs.length := by simpa using i3
     simp only [List.append_nil]
     refine retG_shift (.joinO [0, 1] (Gs := [[_], _]) z138 rfl (G := barriersO h ys) (.of_eq z91)) ?_
     exact retG [0] (L := [fO (barriersO h ys)]) ⟨congrArg (fun z : Nat => Value.int .i64 (z : Int)) i2.symm, by rw [i1]⟩ z146 rfl ⟨rfl, trivial⟩ (fun _ => rfl)
   | cons x zs => simp at g; omega
set_option maxHeartbeats 16000000 in
set_option maxRecDepth 100000 in
theorem heldBarrierS_c (h : Sl) (xs : List BarrierH) (k : Nat) (w : World) (hh : At w [fR (barriersO h (mkL mkBarrier nxBarrier k xs))]) (hl : xs.length ≤ 1048576) (hb : ∀ x ∈ xs, Barrier.small20 x.m) (hk : k ≤ 144115188075855872) :
   Calls Tryz.prog 92 #[h.val (mkL mkBarrier nxBarrier k xs).length, .int .i64 (k : Int)] w (Ret w fun v L => v = .int .i64 ((nxL nxBarrier k xs : Nat) : Int) ∧ L = []) := by
 obtain ⟨R, hR⟩ : ∃ R, R = mkL mkBarrier nxBarrier k xs := ⟨_, rfl⟩
 have hRl : R.length = xs.length := by rw [hR]; exact mkL_len _ _ _ _
 rw [← hR] at hh ⊢
 refine calls2 Tryz.func92 rfl tabOk w _ rfl _ rfl _ hh ⟨rfl, rfl, trivial⟩ _ _ (by decide) ?_
 refine LoopW.mk ⟨{ p : Nat × List BarrierH × Nat // R.drop p.1 = mkL mkBarrier nxBarrier p.2.2 p.2.1 ∧ nxL nxBarrier k xs = nxL nxBarrier p.2.2 p.2.1 ∧ p.1 + p.2.1.length = R.length ∧ (∀ x ∈ p.2.1, Barrier.small20 x.m) ∧ p.2.2 + p.2.1.length * 8388608 ≤ 288230376151711744 },
   fun p => .mk [(0, .v (h.val R.length)), (1, .v (.int .i64 (p.1.2.2 : Int))), (5, .v (.int .i64 (p.1.1 : Int)))] 0 0 [] [] [fR (barriersO h R)],
   fun p => p.1.2.1.length, ⟨(0, xs, k), by rw [hR]; rfl, rfl, by simp [hRl], hb, by simp only; omega⟩, ?_, ?_⟩
 · exact weak_mk [0] zw2 zw0 zw2 zw5 zw4 rfl rfl
 rintro ⟨⟨j, zs, c⟩, i1, i2, i3, i4, i5⟩
 simp only at i1 i2 i3 i4 i5
 apply CaseB.mk <;> intro g
 · have hlt : j < R.length := by simpa using g
   cases zs with
   | nil => simp at i3; omega
   | cons x zs =>
     simp only [List.length_cons] at i3 i5
     have hx := i4 x (by simp)
     have hnx := nxBarrier_le c x hx
     unfold Barrier.small20 at hx
     rw [List.drop_eq_getElem_cons hlt] at i1
     simp only [mkL, List.cons.injEq] at i1
     obtain ⟨hv, i1⟩ := i1
     refine stop_idx encBarrierH tabOk rfl rfl rfl rfl rfl ⟨rfl, rfl⟩ (rdVia 0 rfl (.ofR nest_h)) j rfl hlt (fun ad0 => ?_)
     rw [hv]
     refine CaseB.mk (fun g => by simp [mkBarrier] at g) (fun _ => ?_)
     have hw1 : IntKind.i64.wrap (((c : Nat) : Int) + 1) = ((c + 1 : Nat) : Int) := e_succ (c) (c + 1) (by omega) (by omega)
     refine stop_eq 1 rfl (congrArg (Value.int .i64) hw1) ?_
     refine stop_idx encBarrierH tabOk rfl rfl rfl rfl rfl ⟨rfl, rfl⟩ (rdVia 0 rfl (.ofR nest_h)) j rfl hlt (fun ad1 => ?_)
     rw [hv]
     refine CaseB.mk (fun g => by simp [mkBarrier] at g) (fun _ => ?_)
     have hw2 : IntKind.i64.wrap (((c + 1 : Nat) : Int) + 1) = ((c + 1 + 1 : Nat) : Int) := e_succ (c + 1) (c + 1 + 1) (by omega) (by omega)
     refine stop_eq 1 rfl (congrArg (Value.int .i64) hw2) ?_
     refine stop_idx encBarrierH tabOk rfl rfl rfl rfl rfl ⟨rfl, rfl⟩ (rdVia 0 rfl (.ofR nest_h)) j rfl hlt (fun ad2 => ?_)
     rw [hv]
     have hr0 := barriersO_0 h R j hlt
     rw [hv] at hr0
     refine stop_call _ cl38 rfl rfl rfl rfl ⟨rfl, rfl⟩ (fun A w hW => heldIntS_c _ (c + 1 + 1) x.m.waits.length w ⟨hW.get 0 rfl (.ofR hr0), trivial⟩ (by omega) (by omega)) ?_
     rintro v L ⟨rfl, rfl⟩
     refine CaseB.mk (fun g => by simp at g; omega) (fun _ => ?_)
     have hwj := e_succ j R.length hlt (by omega)
     refine ⟨⟨(j + 1, zs, nxBarrier c x), i1, by rw [i2]; rfl, by simp only; omega, fun y hy => i4 y z109, by simp only; omega⟩, ?_, by simp⟩
     exact weak_mk [0] zw11 zw0 zw11 zw5 zw24 rfl rfl
 · have hge : R.length ≤ j := by simpa using g
   cases zs with
   | nil => exact ret0 ⟨congrArg (fun z : Nat => Value.int .i64 (z : Int)) i2.symm, rfl⟩ (fun _ => rfl)
   | cons x zs => simp at i3; omega
def mkChan (c : Nat) (x : ChanH) : ChanH := ⟨⟨((c : Nat) : Int), marks (c + 1) x.m.items.length, marksLetter (c + 1 + x.m.items.length) x.m.senders.length, marks (c + 1 + x.m.items.length + 2 * x.m.senders.length) x.m.getters.length, ((((c + 1 + x.m.items.length + 2 * x.m.senders.length + x.m.getters.length) % 3 : Nat) : Int) == 0)⟩, x.q0, x.q1, x.q2⟩
def nxChan (c : Nat) (x : ChanH) : Nat := c + 1 + x.m.items.length + 2 * x.m.senders.length + x.m.getters.length + 1
theorem nxChan_le (c : Nat) (x : ChanH) (h : Chan.small20 x.m) : nxChan c x ≤ c + 8388608 := by
 unfold Chan.small20 at h
 unfold nxChan
 omega
set_option maxHeartbeats 16000000 in
set_option maxRecDepth 100000 in
theorem markChanS_c (h : Sl) (xs : List ChanH) (k : Nat) (w : World) (hh : AtG w [fO (chansO h xs)] []) (hl : xs.length ≤ 1048576) (hb : ∀ x ∈ xs, Chan.small20 x.m) (hk : k ≤ 144115188075855872) :
   Calls Tryz.prog 88 #[h.val xs.length, .int .i64 (k : Int)] w (RetG w [fO (chansO h xs)] fun v L => v = .int .i64 ((nxL nxChan k xs : Nat) : Int) ∧ L = [fO (chansO h (mkL mkChan nxChan k xs))]) := by
 refine callsG_fn Tryz.func88 rfl tabOk w _ rfl _ rfl _ _ hh trivial _ _ rfl rfl ?_
 refine LoopW.mk ⟨{ p : List ChanH × List ChanH × Nat // mkL mkChan nxChan k xs = p.1 ++ mkL mkChan nxChan p.2.2 p.2.1 ∧ nxL nxChan k xs = nxL nxChan p.2.2 p.2.1 ∧ p.1.length + p.2.1.length = xs.length ∧ (∀ x ∈ p.2.1, Chan.small20 x.m) ∧ p.2.2 + p.2.1.length * 8388608 ≤ 288230376151711744 },
   fun p => .mk [(0, .v (h.val (p.1.1 ++ p.1.2.1).length)), (1, .v (.int .i64 (p.1.2.2 : Int))), (5, .v (.int .i64 (p.1.1.length : Int)))] 0 0 [] [] [own h 119 cChanH 5 (p.1.1 ++ p.1.2.1), fO ((p.1.1 ++ p.1.2.1).flatMap chanO)],
   fun p => p.1.2.1.length, ⟨([], xs, k), by simp, rfl, by simp, hb, by simp only; omega⟩, ?_, ?_⟩
 · refine weak_shift (.splitO 0 (L := [own h 119 cChanH 5 xs]) (G' := xs.flatMap chanO) rfl (.of_eq rfl)) ?_
   exact weak_mk [0, 1] zw2 zw0 zw2 zw5 zw4 rfl rfl
 rintro ⟨⟨ys, zs, c⟩, i1, i2, i3, i4, i5⟩
 simp only at i1 i2 i3 i4 i5
 apply CaseB.mk <;> intro g
 · cases zs with
   | nil => simp at g
   | cons x zs =>
     simp only [List.length_cons] at i3 i5
     have hx := i4 x (by simp)
     have hnx := nxChan_le c x hx
     unfold Chan.small20 at hx
     have hlt : ∀ y : ChanH, ys.length < (ys ++ y :: zs).length := fun y => by simp
     refine stop_idxW encChanH 0 tabOk rfl rfl rfl rfl rfl ⟨rfl, rfl⟩ rfl z90 ys.length rfl (hlt _) (fun g0 hg0 => ?_)
     refine stop_fldW tabOk rfl rfl rfl rfl ⟨rfl, rfl⟩ ?_
     refine stop_storeW encChanH 0 tabOk rfl rfl rfl rfl rfl rfl rfl rfl hg0 ys.length 0 (⟨⟨((c : Nat) : Int), x.m.items, x.m.senders, x.m.getters, x.m.closed⟩, x.q0, x.q1, x.q2⟩ : ChanH) rfl (hlt _) rfl [.int .i64 ((c : Nat) : Int)] (fun _ => rfl) (by simp [cChanH]) ?_
     rw [app_set]
     have hw1 : IntKind.i64.wrap (((c : Nat) : Int) + 1) = ((c + 1 : Nat) : Int) := e_succ (c) (c + 1) (by omega) (by omega)
     refine stop_eq 1 rfl (congrArg (Value.int .i64) hw1) ?_
     refine stop_idx encChanH (xs := ys ++ (⟨⟨((c : Nat) : Int), x.m.items, x.m.senders, x.m.getters, x.m.closed⟩, x.q0, x.q1, x.q2⟩ : ChanH) :: zs) tabOk rfl (Eq.trans rfl (congrArg (fun n => some (SV.v (h.val n))) (by simp))) rfl rfl rfl ⟨rfl, rfl⟩ (rdOwnAt 0 rfl) ys.length rfl (hlt _) (fun ad1 => ?_)
     rw [app_get]
     refine stop_shift (.splitO 1 (L := chanO x) (G' := (ys ++ zs).flatMap chanO) rfl (perm_out chanO ys zs x)) ?_
     refine stop_callG _ [0] (G := [_]) cl37 rfl rfl rfl rfl ⟨rfl, rfl⟩ ⟨rfl, trivial⟩ ⟨rfl, rfl, trivial⟩ (fun A w hW => (markIntS_c _ _ (c + 1) w (hW.atG [0] (G := [_]) ⟨rfl, trivial⟩ rfl ⟨rfl, rfl, trivial⟩ [] (Fo := []) trivial rfl) z87 (by omega))) ?_
     rintro v L ⟨rfl, rfl⟩
     refine stop_idx encChanH (xs := ys ++ (⟨⟨((c : Nat) : Int), x.m.items, x.m.senders, x.m.getters, x.m.closed⟩, x.q0, x.q1, x.q2⟩ : ChanH) :: zs) tabOk rfl (Eq.trans rfl (congrArg (fun n => some (SV.v (h.val n))) (by simp))) rfl rfl rfl ⟨rfl, rfl⟩ (rdOwnAt 4 rfl) ys.length rfl (hlt _) (fun ad2 => ?_)
     rw [app_get]
     refine stop_callG _ [1] (G := [_]) cl154 rfl rfl rfl rfl ⟨rfl, rfl⟩ ⟨rfl, trivial⟩ ⟨rfl, rfl, trivial⟩ (fun A w hW => (markLetterS_c _ _ (c + 1 + x.m.items.length) w (hW.atG [1] (G := [_]) ⟨rfl, trivial⟩ rfl ⟨rfl, rfl, trivial⟩ [] (Fo := []) trivial rfl) z87 (by omega))) ?_
     rintro v L ⟨rfl, rfl⟩
     refine stop_idx encChanH (xs := ys ++ (⟨⟨((c : Nat) : Int), x.m.items, x.m.senders, x.m.getters, x.m.closed⟩, x.q0, x.q1, x.q2⟩ : ChanH) :: zs) tabOk rfl (Eq.trans rfl (congrArg (fun n => some (SV.v (h.val n))) (by simp))) rfl rfl rfl ⟨rfl, rfl⟩ (rdOwnAt 4 rfl) ys.length rfl (hlt _) (fun ad3 => ?_)
     rw [app_get]
     refine stop_callG _ [2] (G := [_]) cl37 rfl rfl rfl rfl ⟨rfl, rfl⟩ ⟨rfl, trivial⟩ ⟨rfl, rfl, trivial⟩ (fun A w hW => (markIntS_c _ _ (c + 1 + x.m.items.length + 2 * x.m.senders.length) w (hW.atG [2] (G := [_]) ⟨rfl, trivial⟩ rfl ⟨rfl, rfl, trivial⟩ [] (Fo := []) trivial rfl) z87 (by omega))) ?_
     rintro v L ⟨rfl, rfl⟩
     refine stop_bin rfl rfl rfl ⟨rfl, rfl⟩ (.int .i64 ((((c + 1 + x.m.items.length + 2 * x.m.senders.length + x.m.getters.length) % 3 : Nat) : Int))) (fun w => eqGuard_int w) (fun w => rem_run (by decide) z61 w) ?_
     refine stop_idxW encChanH 4 tabOk rfl rfl rfl rfl rfl ⟨rfl, rfl⟩ rfl z90 ys.length rfl (hlt _) (fun g4 hg4 => ?_)
     refine stop_fldW tabOk rfl rfl rfl rfl ⟨rfl, rfl⟩ ?_
     refine stop_storeW encChanH 4 tabOk rfl rfl rfl rfl rfl rfl rfl rfl hg4 ys.length 4 (⟨⟨((c : Nat) : Int), x.m.items, x.m.senders, x.m.getters, ((((c + 1 + x.m.items.length + 2 * x.m.senders.length + x.m.getters.length) % 3 : Nat) : Int) == 0)⟩, x.q0, x.q1, x.q2⟩ : ChanH) rfl (hlt _) rfl [.bool ((((c + 1 + x.m.items.length + 2 * x.m.senders.length + x.m.getters.length) % 3 : Nat) : Int) == 0)] (fun _ => rfl) (by simp [cChanH]) ?_
     rw [app_set]
     have hw2 : IntKind.i64.wrap (((c + 1 + x.m.items.length + 2 * x.m.senders.length + x.m.getters.length : Nat) : Int) + 1) = ((c + 1 + x.m.items.length + 2 * x.m.senders.length + x.m.getters.length + 1 : Nat) : Int) := e_succ (c + 1 + x.m.items.length + 2 * x.m.senders.length + x.m.getters.length) (c + 1 + x.m.items.length + 2 * x.m.senders.length + x.m.getters.length + 1) (by omega) (by omega)
     have hwj := e_succ ys.length xs.length (by omega) (by omega)
     have hz : nxChan c x = c + 1 + x.m.items.length + 2 * x.m.senders.length + x.m.getters.length + 1 := rfl
     generalize hzz : mkChan c x = z
     have hwj2 : IntKind.i64.wrap ((ys.length : Int) + 1) = (((ys ++ [z]).length : Nat) : Int) := by rw [hwj]; simp
     have hl0 : h.val (ys ++ x :: zs).length = h.val ((ys ++ [z]) ++ zs).length := congrArg h.val (by simp)
     have hrow : own h 119 cChanH 5 (ys ++ (⟨⟨((c : Nat) : Int), x.m.items, x.m.senders, x.m.getters, ((((c + 1 + x.m.items.length + 2 * x.m.senders.length + x.m.getters.length) % 3 : Nat) : Int) == 0)⟩, x.q0, x.q1, x.q2⟩ : ChanH) :: zs) = own h 119 cChanH 5 ((ys ++ [z]) ++ zs) := by
       subst hzz
       have e1 : cells cChanH (ys ++ (⟨⟨((c : Nat) : Int), x.m.items, x.m.senders, x.m.getters, ((((c + 1 + x.m.items.length + 2 * x.m.senders.length + x.m.getters.length) % 3 : Nat) : Int) == 0)⟩, x.q0, x.q1, x.q2⟩ : ChanH) :: zs) = cells cChanH ((ys ++ [mkChan c x]) ++ zs) := by simp [cells, cChanH, mkChan, marks_len, marksLetter_len]
       have e2 : (ys ++ (⟨⟨((c : Nat) : Int), x.m.items, x.m.senders, x.m.getters, ((((c + 1 + x.m.items.length + 2 * x.m.senders.length + x.m.getters.length) % 3 : Nat) : Int) == 0)⟩, x.q0, x.q1, x.q2⟩ : ChanH) :: zs).length = ((ys ++ [mkChan c x]) ++ zs).length := by simp
       rw [own_eq e1 e2]
     refine ⟨⟨(ys ++ [z], zs, nxChan c x), by rw [i1, ← hzz]; simp [mkL], by rw [i2]; rfl, by simp; omega, fun y hy => i4 y z109, by simp only; omega⟩, ?_, by simp⟩
     refine weak_shift (.joinO [3, 2, 1, 4] (Gs := [[_], [_], [_], _]) z124 rfl (G := ((ys ++ [z]) ++ zs).flatMap chanO) (.trans (.of_eq (by rw [← hzz]; simp [chanO, mkChan])) (perm_in chanO ys zs z))) ?_
     refine weak_mk [1, 0] ?_ ?_ ?_ ?_ ?_ rfl rfl
     · exact zw23
     · exact zw0
     · exact zw23
     · exact zw5
     · repeat (first | exact trivial | refine ⟨.inl ⟨_, rfl, (by first | rfl | ((first | exact hrow | exact congrArg SV.v hl0 | exact congrArg (fun z => SV.v (Value.int .i64 z)) hwj2 | exact congrArg (fun z => SV.v (Value.int .i64 z)) hw2)))⟩, ?_⟩ | refine ⟨.inr z142, ?_⟩)
 · cases zs with
   | nil =>
     simp only [mkL, List.append_nil] at i1
     simp only [nxL] at i2
     have hyl : ys.length = xs.length := by simpa using i3
     simp only [List.append_nil]
     refine retG_shift (.joinO [0, 1] (Gs := [[_], _]) z138 rfl (G := chansO h ys) (.of_eq (by simp [chansO, nestO]))) ?_
     exact retG [0] (L := [fO (chansO h ys)]) ⟨congrArg (fun z : Nat => Value.int .i64 (z : Int)) i2.symm, by rw [i1]⟩ z146 rfl ⟨rfl, trivial⟩ (fun _ => rfl)
   | cons x zs => simp at g; omega
set_option maxHeartbeats 16000000 in
set_option maxRecDepth 100000 in
theorem heldChanS_c (h : Sl) (xs : List ChanH) (k : Nat) (w : World) (hh : At w [fR (chansO h (mkL mkChan nxChan k xs))]) (hl : xs.length ≤ 1048576) (hb : ∀ x ∈ xs, Chan.small20 x.m) (hk : k ≤ 144115188075855872) :
   Calls Tryz.prog 93 #[h.val (mkL mkChan nxChan k xs).length, .int .i64 (k : Int)] w (Ret w fun v L => v = .int .i64 ((nxL nxChan k xs : Nat) : Int) ∧ L = []) := by
 obtain ⟨R, hR⟩ : ∃ R, R = mkL mkChan nxChan k xs := ⟨_, rfl⟩
 have hRl : R.length = xs.length := by rw [hR]; exact mkL_len _ _ _ _
 rw [← hR] at hh ⊢
 refine calls2 Tryz.func93 rfl tabOk w _ rfl _ rfl _ hh ⟨rfl, rfl, trivial⟩ _ _ (by decide) ?_
 refine LoopW.mk ⟨{ p : Nat × List ChanH × Nat // R.drop p.1 = mkL mkChan nxChan p.2.2 p.2.1 ∧ nxL nxChan k xs = nxL nxChan p.2.2 p.2.1 ∧ p.1 + p.2.1.length = R.length ∧ (∀ x ∈ p.2.1, Chan.small20 x.m) ∧ p.2.2 + p.2.1.length * 8388608 ≤ 288230376151711744 },
   fun p => .mk [(0, .v (h.val R.length)), (1, .v (.int .i64 (p.1.2.2 : Int))), (5, .v (.int .i64 (p.1.1 : Int)))] 0 0 [] [] [fR (chansO h R)],
   fun p => p.1.2.1.length, ⟨(0, xs, k), by rw [hR]; rfl, rfl, by simp [hRl], hb, by simp only; omega⟩, ?_, ?_⟩
 · exact weak_mk [0] zw2 zw0 zw2 zw5 zw4 rfl rfl
 rintro ⟨⟨j, zs, c⟩, i1, i2, i3, i4, i5⟩
 simp only at i1 i2 i3 i4 i5
 apply CaseB.mk <;> intro g
 · have hlt : j < R.length := by simpa using g
   cases zs with
   | nil => simp at i3; omega
   | cons x zs =>
     simp only [List.length_cons] at i3 i5
     have hx := i4 x (by simp)
     have hnx := nxChan_le c x hx
     unfold Chan.small20 at hx
     rw [List.drop_eq_getElem_cons hlt] at i1
     simp only [mkL, List.cons.injEq] at i1
     obtain ⟨hv, i1⟩ := i1
     refine stop_idx encChanH tabOk rfl rfl rfl rfl rfl ⟨rfl, rfl⟩ (rdVia 0 rfl (.ofR nest_h)) j rfl hlt (fun ad0 => ?_)
     rw [hv]
     refine CaseB.mk (fun g => by simp [mkChan] at g) (fun _ => ?_)
     have hw1 : IntKind.i64.wrap (((c : Nat) : Int) + 1) = ((c + 1 : Nat) : Int) := e_succ (c) (c + 1) (by omega) (by omega)
     refine stop_eq 1 rfl (congrArg (Value.int .i64) hw1) ?_
     refine stop_idx encChanH tabOk rfl rfl rfl rfl rfl ⟨rfl, rfl⟩ (rdVia 0 rfl (.ofR nest_h)) j rfl hlt (fun ad1 => ?_)
     rw [hv]
     have hr0 := chansO_0 h R j hlt
     rw [hv] at hr0
     refine stop_call _ cl38 rfl rfl rfl rfl ⟨rfl, rfl⟩ (fun A w hW => heldIntS_c _ (c + 1) x.m.items.length w ⟨hW.get 0 rfl (.ofR hr0), trivial⟩ (by omega) (by omega)) ?_
     rintro v L ⟨rfl, rfl⟩
     refine CaseB.mk (fun g => by simp at g; omega) (fun _ => ?_)
     refine stop_idx encChanH tabOk rfl rfl rfl rfl rfl ⟨rfl, rfl⟩ (rdVia 0 rfl (.ofR nest_h)) j rfl hlt (fun ad2 => ?_)
     rw [hv]
     have hr1 := chansO_1 h R j hlt
     rw [hv] at hr1
     refine stop_call _ cl156 rfl rfl rfl rfl ⟨rfl, rfl⟩ (fun A w hW => heldLetterS_c _ (c + 1 + x.m.items.length) x.m.senders.length w ⟨hW.get 0 rfl (.ofR hr1), trivial⟩ (by omega) (by omega)) ?_
     rintro v L ⟨rfl, rfl⟩
     refine CaseB.mk (fun g => by simp at g; omega) (fun _ => ?_)
     refine stop_idx encChanH tabOk rfl rfl rfl rfl rfl ⟨rfl, rfl⟩ (rdVia 0 rfl (.ofR nest_h)) j rfl hlt (fun ad3 => ?_)
     rw [hv]
     have hr2 := chansO_2 h R j hlt
     rw [hv] at hr2
     refine stop_call _ cl38 rfl rfl rfl rfl ⟨rfl, rfl⟩ (fun A w hW => heldIntS_c _ (c + 1 + x.m.items.length + 2 * x.m.senders.length) x.m.getters.length w ⟨hW.get 0 rfl (.ofR hr2), trivial⟩ (by omega) (by omega)) ?_
     rintro v L ⟨rfl, rfl⟩
     refine CaseB.mk (fun g => by simp at g; omega) (fun _ => ?_)
     refine stop_idx encChanH tabOk rfl rfl rfl rfl rfl ⟨rfl, rfl⟩ (rdVia 0 rfl (.ofR nest_h)) j rfl hlt (fun ad4 => ?_)
     rw [hv]
     refine stop_bin rfl rfl rfl ⟨rfl, rfl⟩ (.int .i64 ((((c + 1 + x.m.items.length + 2 * x.m.senders.length + x.m.getters.length) % 3 : Nat) : Int))) (fun w => eqGuard_int w) (fun w => rem_run (by decide) z61 w) ?_
     refine CaseB.mk (fun g => by simp [mkChan] at g) (fun _ => ?_)
     have hw2 : IntKind.i64.wrap (((c + 1 + x.m.items.length + 2 * x.m.senders.length + x.m.getters.length : Nat) : Int) + 1) = ((c + 1 + x.m.items.length + 2 * x.m.senders.length + x.m.getters.length + 1 : Nat) : Int) := e_succ (c + 1 + x.m.items.length + 2 * x.m.senders.length + x.m.getters.length) (c + 1 + x.m.items.length + 2 * x.m.senders.length + x.m.getters.length + 1) (by omega) (by omega)
     have hwj := e_succ j R.length hlt (by omega)
     refine ⟨⟨(j + 1, zs, nxChan c x), i1, by rw [i2]; rfl, by simp only; omega, fun y hy => i4 y z109, by simp only; omega⟩, ?_, by simp⟩
     refine weak_mk [0] ?_ ?_ ?_ ?_ ?_ rfl rfl
     · exact zw28
     · exact zw0
     · exact zw28
     · exact zw5
     · repeat (first | exact trivial | refine ⟨.inl ⟨_, rfl, (by first | rfl | ((first | exact congrArg (fun z => SV.v (Value.int .i64 z)) hwj | exact congrArg (fun z => SV.v (Value.int .i64 z)) hw2)))⟩, ?_⟩ | refine ⟨.inr z142, ?_⟩)
 · have hge : R.length ≤ j := by simpa using g
   cases zs with
   | nil => exact ret0 ⟨congrArg (fun z : Nat => Value.int .i64 (z : Int)) i2.symm, rfl⟩ (fun _ => rfl)
   | cons x zs => simp at i3; omega
def atState0 (k : Nat) (s : StateH) : Nat := k + s.places.length
def atState1 (k : Nat) (s : StateH) : Nat := (atState0 k s) + s.status.length
def atState2 (k : Nat) (s : StateH) : Nat := nxL nxSem (atState1 k s) s.sems
def atState3 (k : Nat) (s : StateH) : Nat := nxL nxOnce (atState2 k s) s.onces
def atState4 (k : Nat) (s : StateH) : Nat := nxL nxGroup (atState3 k s) s.groups
def atState5 (k : Nat) (s : StateH) : Nat := nxL nxBarrier (atState4 k s) s.barriers
def atState6 (k : Nat) (s : StateH) : Nat := nxL nxChan (atState5 k s) s.chans
def atState7 (k : Nat) (s : StateH) : Nat := (atState6 k s) + s.said.length
def mkState (k : Nat) (s : StateH) : StateH := { s with places := marks (k) s.places.length, status := marks (atState0 k s) s.status.length, sems := mkL mkSem nxSem (atState1 k s) s.sems, onces := mkL mkOnce nxOnce (atState2 k s) s.onces, groups := mkL mkGroup nxGroup (atState3 k s) s.groups, barriers := mkL mkBarrier nxBarrier (atState4 k s) s.barriers, chans := mkL mkChan nxChan (atState5 k s) s.chans, said := marks (atState6 k s) s.said.length }
set_option maxHeartbeats 16000000 in
set_option maxRecDepth 100000 in
theorem markState_c (s : StateH) (k : Nat) (w : World) (hh : AtG w [fO (stateO s)] []) (hb : s.pure.small20) (hk : k ≤ 36028797018963968) :
   Calls Tryz.prog 21 #[stateV s, .int .i64 (k : Int)] w (RetG w [fO (stateO s)] fun v L => v = .int .i64 ((atState7 k s : Nat) : Int) ∧ L = [fO (stateO (mkState k s))]) := by
 obtain ⟨b0, b1, b2, b3, b4, b5, b6, b7⟩ := hb
 have t0 : atState0 k s = k + s.places.length := rfl
 have t1 : atState1 k s = atState0 k s + s.status.length := rfl
 have t2 : atState2 k s ≤ atState1 k s + s.sems.length * 8388608 := nxL_le (P := fun x => Sem.small20 x.m) (fun c x h => nxSem_le c x h) _ _ (allS_map b2).2
 have t3 : atState3 k s ≤ atState2 k s + s.onces.length * 8388608 := nxL_le (P := fun x => Once.small20 x.m) (fun c x h => nxOnce_le c x h) _ _ (allS_map b3).2
 have t4 : atState4 k s ≤ atState3 k s + s.groups.length * 8388608 := nxL_le (P := fun x => Group.small20 x.m) (fun c x h => nxGroup_le c x h) _ _ (allS_map b4).2
 have t5 : atState5 k s ≤ atState4 k s + s.barriers.length * 8388608 := nxL_le (P := fun x => Barrier.small20 x.m) (fun c x h => nxBarrier_le c x h) _ _ (allS_map b5).2
 have t6 : atState6 k s ≤ atState5 k s + s.chans.length * 8388608 := nxL_le (P := fun x => Chan.small20 x.m) (fun c x h => nxChan_le c x h) _ _ (allS_map b6).2
 have t7 : atState7 k s = atState6 k s + s.said.length := rfl
 have s0 : s.places.length ≤ 1048576 := b0
 have s1 : s.status.length ≤ 1048576 := b1
 have s2 := (allS_map b2).1
 have s3 := (allS_map b3).1
 have s4 := (allS_map b4).1
 have s5 := (allS_map b5).1
 have s6 := (allS_map b6).1
 have s7 : s.said.length ≤ 1048576 := b7
 refine callsG_fn Tryz.func21 rfl tabOk w _ rfl _ rfl _ _ hh trivial _ _ rfl rfl ?_
 refine stop_shift (.splitO 0 (L := [own s.h0 3 cInt 1 s.places, own s.h1 3 cInt 1 s.status, own s.h7 3 cInt 1 s.said]) (G' := semsO s.h2 s.sems ++ oncesO s.h3 s.onces ++ groupsO s.h4 s.groups ++ barriersO s.h5 s.barriers ++ chansO s.h6 s.chans) rfl ?_) ?_
 · refine List.Perm.cons _ (List.Perm.cons _ ?_)
   rw [show ∀ (a b c d e : List Fct) (x : Fct), a ++ (b ++ (c ++ (d ++ (e ++ [x])))) = (a ++ b ++ c ++ d ++ e) ++ [x] from fun a b c d e x => by simp]
   exact List.perm_append_comm
 refine stop_shift (.splitOO 3 [semsO s.h2 s.sems, oncesO s.h3 s.onces, groupsO s.h4 s.groups, barriersO s.h5 s.barriers, chansO s.h6 s.chans] rfl (.of_eq (by simp))) ?_
 refine stop_callG _ [5] (G := [_]) cl37 rfl rfl rfl rfl ⟨rfl, rfl⟩ ⟨rfl, trivial⟩ ⟨rfl, rfl, trivial⟩ (fun A w hW => (markIntS_c s.h0 s.places (k) w (hW.atG [5] (G := [_]) ⟨rfl, trivial⟩ rfl ⟨rfl, rfl, trivial⟩ [] (Fo := []) trivial rfl) (Nat.le_trans b0 (by decide)) (by omega))) ?_
 rintro v L ⟨rfl, rfl⟩
 refine stop_callG _ [6] (G := [_]) cl37 rfl rfl rfl rfl ⟨rfl, rfl⟩ ⟨rfl, trivial⟩ ⟨rfl, rfl, trivial⟩ (fun A w hW => (markIntS_c s.h1 s.status (atState0 k s) w (hW.atG [6] (G := [_]) ⟨rfl, trivial⟩ rfl ⟨rfl, rfl, trivial⟩ [] (Fo := []) trivial rfl) (Nat.le_trans b1 (by decide)) (by omega))) ?_
 rintro v L ⟨rfl, rfl⟩
 refine stop_callG _ [2] (G := [_]) cl84 rfl rfl rfl rfl ⟨rfl, rfl⟩ ⟨rfl, trivial⟩ ⟨rfl, rfl, trivial⟩ (fun A w hW => (markSemS_c s.h2 s.sems (atState1 k s) w (hW.atG [2] (G := [_]) ⟨rfl, trivial⟩ rfl ⟨rfl, rfl, trivial⟩ [] (Fo := []) trivial rfl) (allS_map b2).1 (allS_map b2).2 (by omega))) ?_
 rintro v L ⟨rfl, rfl⟩
 refine stop_callG _ [3] (G := [_]) cl85 rfl rfl rfl rfl ⟨rfl, rfl⟩ ⟨rfl, trivial⟩ ⟨rfl, rfl, trivial⟩ (fun A w hW => (markOnceS_c s.h3 s.onces (atState2 k s) w (hW.atG [3] (G := [_]) ⟨rfl, trivial⟩ rfl ⟨rfl, rfl, trivial⟩ [] (Fo := []) trivial rfl) (allS_map b3).1 (allS_map b3).2 (by omega))) ?_
 rintro v L ⟨rfl, rfl⟩
 refine stop_callG _ [4] (G := [_]) cl86 rfl rfl rfl rfl ⟨rfl, rfl⟩ ⟨rfl, trivial⟩ ⟨rfl, rfl, trivial⟩ (fun A w hW => (markGroupS_c s.h4 s.groups (atState3 k s) w (hW.atG [4] (G := [_]) ⟨rfl, trivial⟩ rfl ⟨rfl, rfl, trivial⟩ [] (Fo := []) trivial rfl) (allS_map b4).1 (allS_map b4).2 (by omega))) ?_
 rintro v L ⟨rfl, rfl⟩
 refine stop_callG _ [5] (G := [_]) cl87 rfl rfl rfl rfl ⟨rfl, rfl⟩ ⟨rfl, trivial⟩ ⟨rfl, rfl, trivial⟩ (fun A w hW => (markBarrierS_c s.h5 s.barriers (atState4 k s) w (hW.atG [5] (G := [_]) ⟨rfl, trivial⟩ rfl ⟨rfl, rfl, trivial⟩ [] (Fo := []) trivial rfl) (allS_map b5).1 (allS_map b5).2 (by omega))) ?_
 rintro v L ⟨rfl, rfl⟩
 refine stop_callG _ [6] (G := [_]) cl88 rfl rfl rfl rfl ⟨rfl, rfl⟩ ⟨rfl, trivial⟩ ⟨rfl, rfl, trivial⟩ (fun A w hW => (markChanS_c s.h6 s.chans (atState5 k s) w (hW.atG [6] (G := [_]) ⟨rfl, trivial⟩ rfl ⟨rfl, rfl, trivial⟩ [] (Fo := []) trivial rfl) (allS_map b6).1 (allS_map b6).2 (by omega))) ?_
 rintro v L ⟨rfl, rfl⟩
 refine stop_callG _ [7] (G := [_]) cl37 rfl rfl rfl rfl ⟨rfl, rfl⟩ ⟨rfl, trivial⟩ ⟨rfl, rfl, trivial⟩ (fun A w hW => (markIntS_c s.h7 s.said (atState6 k s) w (hW.atG [7] (G := [_]) ⟨rfl, trivial⟩ rfl ⟨rfl, rfl, trivial⟩ [] (Fo := []) trivial rfl) (Nat.le_trans b7 (by decide)) (by omega))) ?_
 rintro v L ⟨rfl, rfl⟩
 refine retG_shift (.joinO [7, 6, 5, 4, 3, 2, 1, 0] (Gs := [[_], [_], _, _, _, _, _, [_]]) z115 rfl (G := stateO (mkState k s)) (.of_eq (by simp [stateO, mkState]))) ?_
 exact retG [0] ⟨rfl, rfl⟩ z146 rfl ⟨rfl, trivial⟩ (fun _ => rfl)
set_option maxHeartbeats 16000000 in
set_option maxRecDepth 100000 in
theorem heldState_c (s : StateH) (k : Nat) (w : World) (hh : At w [fR (stateO (mkState k s))]) (hb : s.pure.small20) (hk : k ≤ 36028797018963968) :
   Calls Tryz.prog 22 #[stateV (mkState k s), .int .i64 (k : Int)] w (Ret w fun v L => v = .int .i64 ((atState7 k s : Nat) : Int) ∧ L = []) := by
 obtain ⟨b0, b1, b2, b3, b4, b5, b6, b7⟩ := hb
 have t0 : atState0 k s = k + s.places.length := rfl
 have t1 : atState1 k s = atState0 k s + s.status.length := rfl
 have t2 : atState2 k s ≤ atState1 k s + s.sems.length * 8388608 := nxL_le (P := fun x => Sem.small20 x.m) (fun c x h => nxSem_le c x h) _ _ (allS_map b2).2
 have t3 : atState3 k s ≤ atState2 k s + s.onces.length * 8388608 := nxL_le (P := fun x => Once.small20 x.m) (fun c x h => nxOnce_le c x h) _ _ (allS_map b3).2
 have t4 : atState4 k s ≤ atState3 k s + s.groups.length * 8388608 := nxL_le (P := fun x => Group.small20 x.m) (fun c x h => nxGroup_le c x h) _ _ (allS_map b4).2
 have t5 : atState5 k s ≤ atState4 k s + s.barriers.length * 8388608 := nxL_le (P := fun x => Barrier.small20 x.m) (fun c x h => nxBarrier_le c x h) _ _ (allS_map b5).2
 have t6 : atState6 k s ≤ atState5 k s + s.chans.length * 8388608 := nxL_le (P := fun x => Chan.small20 x.m) (fun c x h => nxChan_le c x h) _ _ (allS_map b6).2
 have t7 : atState7 k s = atState6 k s + s.said.length := rfl
 have s0 : s.places.length ≤ 1048576 := b0
 have s1 : s.status.length ≤ 1048576 := b1
 have s2 := (allS_map b2).1
 have s3 := (allS_map b3).1
 have s4 := (allS_map b4).1
 have s5 := (allS_map b5).1
 have s6 := (allS_map b6).1
 have s7 : s.said.length ≤ 1048576 := b7
 refine calls2 Tryz.func22 rfl tabOk w _ rfl _ rfl _ hh ⟨rfl, rfl, trivial⟩ _ _ (by decide) ?_
 refine stop_call _ cl38 rfl rfl rfl rfl ⟨rfl, rfl⟩ (fun A w hW => heldIntS_c s.h0 (k) s.places.length w ⟨hW.get 0 rfl (.ofR (stateO_places (mkState k s))), trivial⟩ (Nat.le_trans b0 (by decide)) (by omega)) ?_
 rintro v L ⟨rfl, rfl⟩
 refine CaseB.mk (fun g => by have g' := of_decide_eq_true g; omega) (fun _ => ?_)
 refine stop_call _ cl38 rfl rfl rfl rfl ⟨rfl, rfl⟩ (fun A w hW => heldIntS_c s.h1 (atState0 k s) s.status.length w ⟨hW.get 0 rfl (.ofR (stateO_status (mkState k s))), trivial⟩ (Nat.le_trans b1 (by decide)) (by omega)) ?_
 rintro v L ⟨rfl, rfl⟩
 refine CaseB.mk (fun g => by have g' := of_decide_eq_true g; omega) (fun _ => ?_)
 refine stop_call _ cl89 rfl rfl rfl rfl ⟨rfl, rfl⟩ (fun A w hW => heldSemS_c s.h2 s.sems (atState1 k s) w ⟨hW.get 0 rfl (.R_R (stateO_sems (mkState k s))), trivial⟩ (allS_map b2).1 (allS_map b2).2 (by omega)) ?_
 rintro v L ⟨rfl, rfl⟩
 refine CaseB.mk (fun g => by have g' := of_decide_eq_true g; omega) (fun _ => ?_)
 refine stop_call _ cl90 rfl rfl rfl rfl ⟨rfl, rfl⟩ (fun A w hW => heldOnceS_c s.h3 s.onces (atState2 k s) w ⟨hW.get 0 rfl (.R_R (stateO_onces (mkState k s))), trivial⟩ (allS_map b3).1 (allS_map b3).2 (by omega)) ?_
 rintro v L ⟨rfl, rfl⟩
 refine CaseB.mk (fun g => by have g' := of_decide_eq_true g; omega) (fun _ => ?_)
 refine stop_call _ cl91 rfl rfl rfl rfl ⟨rfl, rfl⟩ (fun A w hW => heldGroupS_c s.h4 s.groups (atState3 k s) w ⟨hW.get 0 rfl (.R_R (stateO_groups (mkState k s))), trivial⟩ (allS_map b4).1 (allS_map b4).2 (by omega)) ?_
 rintro v L ⟨rfl, rfl⟩
 refine CaseB.mk (fun g => by have g' := of_decide_eq_true g; omega) (fun _ => ?_)
 refine stop_call _ cl92 rfl rfl rfl rfl ⟨rfl, rfl⟩ (fun A w hW => heldBarrierS_c s.h5 s.barriers (atState4 k s) w ⟨hW.get 0 rfl (.R_R (stateO_barriers (mkState k s))), trivial⟩ (allS_map b5).1 (allS_map b5).2 (by omega)) ?_
 rintro v L ⟨rfl, rfl⟩
 refine CaseB.mk (fun g => by have g' := of_decide_eq_true g; omega) (fun _ => ?_)
 refine stop_call _ cl93 rfl rfl rfl rfl ⟨rfl, rfl⟩ (fun A w hW => heldChanS_c s.h6 s.chans (atState5 k s) w ⟨hW.get 0 rfl (.R_R (stateO_chans (mkState k s))), trivial⟩ (allS_map b6).1 (allS_map b6).2 (by omega)) ?_
 rintro v L ⟨rfl, rfl⟩
 refine CaseB.mk (fun g => by have g' := of_decide_eq_true g; omega) (fun _ => ?_)
 refine stop_call _ cl38 rfl rfl rfl rfl ⟨rfl, rfl⟩ (fun A w hW => heldIntS_c s.h7 (atState6 k s) s.said.length w ⟨hW.get 0 rfl (.ofR (stateO_said (mkState k s))), trivial⟩ (Nat.le_trans b7 (by decide)) (by omega)) ?_
 rintro v L ⟨rfl, rfl⟩
 refine CaseB.mk (fun g => by have g' := of_decide_eq_true g; omega) (fun _ => ?_)
 exact ret0 ⟨rfl, rfl⟩ (fun _ => rfl)
theorem atProg4_le (s : ProgH) (k : Nat) (hb : s.pure.small20) : atProg4 k s ≤ k + 4194304 + 8796093022208 := by
 obtain ⟨b0, b1, b2, b3, b4⟩ := hb
 have t0 : atProg0 k s = k + s.sems.length := rfl
 have t1 : atProg1 k s = atProg0 k s + s.groups.length := rfl
 have t2 : atProg2 k s = atProg1 k s + s.barriers.length := rfl
 have t3 : atProg3 k s = atProg2 k s + s.rooms.length := rfl
 have t4 : atProg4 k s ≤ atProg3 k s + s.threads.length * 8388608 := nxL_le (P := fun x => OpS.small20 x.m) (fun c x h => nxOpS_le c x h) _ _ (allS_map b4).2
 have s0 : s.sems.length ≤ 1048576 := b0
 have s1 : s.groups.length ≤ 1048576 := b1
 have s2 : s.barriers.length ≤ 1048576 := b2
 have s3 : s.rooms.length ≤ 1048576 := b3
 have s4 := (allS_map b4).1
 omega
theorem readyAns_one (p : Prog) (s : State) (hs : s.small20) : ∃ A : List Int, A.length ≤ 1048576 ∧ ∀ xs : List Int, (Fits p s → xs = readyM s) → (¬ Fits p s → xs = []) → xs = A := by
 by_cases h : Fits p s
 · refine ⟨readyM s, ?_, fun xs h1 _ => h1 h⟩
   have h2 : s.status.length ≤ 1048576 := hs.2.1
   rw [readyM]
   split
   · exact Nat.le_trans (readyL_len _) h2
   · simp
 · exact ⟨[], by simp, fun xs _ h2 => h2 h⟩
end Go.Proofs.YtklclbcckjhdpaaGreat
