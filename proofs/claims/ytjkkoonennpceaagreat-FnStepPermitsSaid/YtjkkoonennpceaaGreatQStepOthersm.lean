/- FnStepOthers: texts that its proof stands on, part 13. -/
import Derived.Test.YtjkkoonennpceaaGreatQStepOthersl
namespace Go.Proofs.YtjkkoonennpceaaGreat
open Go Go.Sx Go.RowKit
set_option maxHeartbeats 40000000 in
set_option maxRecDepth 100000 in
theorem l7Copy_c (s : StateH) (w : World) (h : At w [fR (stateO s)]) (hb : s.pure.small20) :
   Calls Tryz.prog 96 #[stateV s] w (Ret w fun v L => ∃ y : StateH, v = stateV y ∧ y.pure = s.pure ∧ L = [fO (stateO y)]) := by
 obtain ⟨b0, b1, b2, b3, b4, b5, b6, b7⟩ := hb
 have l0 : s.places.length ≤ 1048576 := b0
 have l1 : s.status.length ≤ 1048576 := b1
 have l7 : s.said.length ≤ 1048576 := b7
 have l2 : s.sems.length ≤ 1048576 := (allS_map b2).1
 have l3 : s.onces.length ≤ 1048576 := (allS_map b3).1
 have l4 : s.groups.length ≤ 1048576 := (allS_map b4).1
 have l5 : s.barriers.length ≤ 1048576 := (allS_map b5).1
 have l6 : s.chans.length ≤ 1048576 := (allS_map b6).1
 refine calls1 Tryz.func96 rfl tabOk w _ rfl _ rfl _ h ⟨rfl, rfl, trivial⟩ _ (by decide) ?_
 refine draw_cut (Sl × Sl × Sl) (fun y => .mk [(1, .p 0 0), (2, .p 1 0), (3, .p 2 0)] 3 0 [(0, 30, 9), (1, 30, 9), (2, 30, 9)] [((0, 0), .v (s.h0.val s.places.length)), ((0, 1), .v (s.h1.val s.status.length)), ((0, 2), .v (s.h2.val s.sems.length)), ((0, 3), .v (s.h3.val s.onces.length)), ((0, 4), .v (s.h4.val s.groups.length)), ((0, 5), .v (s.h5.val s.barriers.length)), ((0, 6), .v (s.h6.val s.chans.length)), ((0, 7), .v (s.h7.val s.said.length)), ((0, 8), .v (.int .i64 s.fault)), ((2, 0), .v (y.1.val s.places.length)), ((2, 1), .v (y.2.1.val s.status.length)), ((2, 2), .v (.slice none 0 0)), ((2, 3), .v (.slice none 0 0)), ((2, 4), .v (.slice none 0 0)), ((2, 5), .v (.slice none 0 0)), ((2, 6), .v (.slice none 0 0)), ((2, 7), .v (y.2.2.val s.said.length)), ((2, 8), .v (.int .i64 s.fault))] [own y.1 3 cInt 1 s.places, own y.2.1 3 cInt 1 s.status, own y.2.2 3 cInt 1 s.said, fR (stateO s)]) ?_ ?_
 · refine draw_start tabOk z95 z95 z95 200 [((0, 0), .v (s.h0.val s.places.length)), ((0, 1), .v (s.h1.val s.status.length)), ((0, 7), .v (s.h7.val s.said.length)), ((0, 8), .v (.int .i64 s.fault))] [] [] z111 z125 trivial rfl ?_
   repeat' ((conv => whnf); (first
     | refine BothW.mk ?_ ?_
     | refine AllSl.mk fun y => ?_
     | (refine opd_app rfl rfl ?_; refine d_appK (ti := tiOf tab) encInt tabOk (xs := ([] : List Int)) rfl rfl rfl rfl rfl rfl rfl rfl rfl (by decide) ⟨rfl, rfl⟩ z34 (by first | exact rdVia 0 rfl (.ofR (stateO_places s)) | exact rdVia 1 rfl (.ofR (stateO_places s)) | exact rdVia 2 rfl (.ofR (stateO_places s)) | exact rdVia 3 rfl (.ofR (stateO_places s)) | exact rdVia 4 rfl (.ofR (stateO_places s)) | exact rdVia 5 rfl (.ofR (stateO_places s)) | exact rdVia 6 rfl (.ofR (stateO_places s)) | exact rdVia 0 rfl (.ofR (stateO_status s)) | exact rdVia 1 rfl (.ofR (stateO_status s)) | exact rdVia 2 rfl (.ofR (stateO_status s)) | exact rdVia 3 rfl (.ofR (stateO_status s)) | exact rdVia 4 rfl (.ofR (stateO_status s)) | exact rdVia 5 rfl (.ofR (stateO_status s)) | exact rdVia 6 rfl (.ofR (stateO_status s)) | exact rdVia 0 rfl (.ofR (stateO_said s)) | exact rdVia 1 rfl (.ofR (stateO_said s)) | exact rdVia 2 rfl (.ofR (stateO_said s)) | exact rdVia 3 rfl (.ofR (stateO_said s)) | exact rdVia 4 rfl (.ofR (stateO_said s)) | exact rdVia 5 rfl (.ofR (stateO_said s)) | exact rdVia 6 rfl (.ofR (stateO_said s))) z38 z38 z93 (fun y => ?_))
     | fail))
   all_goals
     refine ⟨(?_, ?_, ?_), ?_⟩
     rotate_left 3
     exact weak_mk [2, 1, 0, 3] zw2 zw0 zw2 zw5 zw4 rfl rfl
 rintro ⟨a, b, d⟩
 simp only
 refine LoopW.mk ⟨{ q : Nat × Sl × List SemH // q.1 ≤ s.sems.length ∧ q.2.2.map (·.m) = (s.sems.map (·.m)).take q.1 },
   fun q => .mk [(1, .p 0 0), (2, .p 1 0), (3, .p 2 0), (4, .v (.int .i64 (q.1.1 : Int)))] 3 0 [(0, 30, 9), (1, 30, 9), (2, 30, 9)] [((0, 0), .v (s.h0.val s.places.length)), ((0, 1), .v (s.h1.val s.status.length)), ((0, 2), .v (s.h2.val s.sems.length)), ((0, 3), .v (s.h3.val s.onces.length)), ((0, 4), .v (s.h4.val s.groups.length)), ((0, 5), .v (s.h5.val s.barriers.length)), ((0, 6), .v (s.h6.val s.chans.length)), ((0, 7), .v (s.h7.val s.said.length)), ((0, 8), .v (.int .i64 s.fault)), ((2, 0), .v (a.val s.places.length)), ((2, 1), .v (b.val s.status.length)), ((2, 2), .v (q.1.2.1.val q.1.2.2.length)), ((2, 3), .v (.slice none 0 0)), ((2, 4), .v (.slice none 0 0)), ((2, 5), .v (.slice none 0 0)), ((2, 6), .v (.slice none 0 0)), ((2, 7), .v (d.val s.said.length)), ((2, 8), .v (.int .i64 s.fault))] [own q.1.2.1 57 cSemH 3 q.1.2.2, fO (q.1.2.2.flatMap semO), own a 3 cInt 1 s.places, own b 3 cInt 1 s.status, own d 3 cInt 1 s.said, fR (stateO s)],
   fun q => s.sems.length - q.1.1, ⟨(0, ⟨none, 0⟩, []), Nat.zero_le _, by simp⟩, ?_, ?_⟩
 · refine weak_shift (.joinO [] (Gs := []) trivial rfl (.refl _)) ?_
   exact weak_mk [99, 0, 1, 2, 3, 4] zw2 zw0 zw2 zw5 zw4 rfl rfl
 rintro ⟨⟨k, c0, L0⟩, hk, hL0⟩
 simp only at hk hL0
 have ln0 : L0.length = k := by have := congrArg List.length hL0; simp at this; omega
 apply CaseB.mk <;> intro g
 · have hlt : k < s.sems.length := by simpa using g
   have hw := e_succ k _ hlt (by omega)
   have hsm := (allS_map b2).2 _ (List.getElem_mem hlt)
   unfold Sem.small20 at hsm
   refine draw_start tabOk z95 z95 z95 200 [((0, 2), .v (s.h2.val s.sems.length))] [5] [_] z135 z138 ⟨rfl, trivial⟩ rfl ?_
   refine d_idx (ti := tiOf tab) encSemH tabOk rfl rfl rfl rfl rfl ⟨rfl, rfl⟩ (rdVia 0 rfl (.trans (.R_R (stateO_sems s)) (.ofR nest_h))) k rfl z38 (fun ad => ?_)
   refine BothW.mk ?_ ?_
   all_goals
     refine d_call _ cl143 rfl rfl rfl rfl ⟨rfl, rfl⟩ (fun A w hW => l1Copy_c _ _ w ⟨hW.get 5 rfl (.trans (.R_R (stateO_sems s)) (.ofR (semsO_0 _ _ k hlt))), trivial⟩ (by omega)) ?_
     rintro v L ⟨y0, rfl, rfl⟩
   rotate_left
   · refine BothW.mk ?_ ?_
     all_goals
       refine AllSl.mk fun u2 => ?_
       refine d_app (ti := tiOf tab) encSemH 2 tabOk (ys := [⟨(s.sems[k]).m, y0⟩]) rfl rfl rfl rfl rfl rfl rfl rfl rfl (by decide) ⟨rfl, rfl⟩ rfl z30 z38 z38 z93 (fun c2 => ?_)
       refine ⟨⟨(k + 1, c2, L0 ++ [⟨(s.sems[k]).m, y0⟩]), hlt, by rw [List.map_append]; exact map_take_succ hlt hL0 rfl⟩, ?_, by simp only; omega⟩
       refine weak_shift (.joinO [2, 3] (Gs := [[_], _]) z126 rfl (G := (L0 ++ [(⟨(s.sems[k]).m, y0⟩ : SemH)]).flatMap semO) z45) ?_
       exact weak_mk [1, 0, 3, 4, 5, 6] zw1 zw0 zw1 zw5 zw3 rfl rfl
   refine AllSl.mk fun u2 => ?_
   refine d_app (ti := tiOf tab) encSemH 2 tabOk (ys := [⟨(s.sems[k]).m, y0⟩]) rfl rfl rfl rfl rfl rfl rfl rfl rfl (by decide) ⟨rfl, rfl⟩ rfl z30 z38 z38 z93 (fun c2 => ?_)
   refine ⟨⟨(k + 1, c2, L0 ++ [⟨(s.sems[k]).m, y0⟩]), hlt, by rw [List.map_append]; exact map_take_succ hlt hL0 rfl⟩, ?_, by simp only; omega⟩
   refine weak_shift (.joinO [2, 3] (Gs := [[_], _]) z126 rfl (G := (L0 ++ [(⟨(s.sems[k]).m, y0⟩ : SemH)]).flatMap semO) z45) ?_
   exact weak_mk [1, 0, 3, 4, 5, 6] zw1 zw0 zw1 zw5 zw3 rfl rfl
 have hge : s.sems.length ≤ k := by simpa using g
 rw [List.take_of_length_le z85] at hL0
 refine LoopW.mk ⟨{ q : Nat × Sl × List OnceH // q.1 ≤ s.onces.length ∧ q.2.2.map (·.m) = (s.onces.map (·.m)).take q.1 },
   fun q => .mk [(1, .p 0 0), (2, .p 1 0), (3, .p 2 0), (5, .v (.int .i64 (q.1.1 : Int)))] 3 0 [(0, 30, 9), (1, 30, 9), (2, 30, 9)] [((0, 0), .v (s.h0.val s.places.length)), ((0, 1), .v (s.h1.val s.status.length)), ((0, 2), .v (s.h2.val s.sems.length)), ((0, 3), .v (s.h3.val s.onces.length)), ((0, 4), .v (s.h4.val s.groups.length)), ((0, 5), .v (s.h5.val s.barriers.length)), ((0, 6), .v (s.h6.val s.chans.length)), ((0, 7), .v (s.h7.val s.said.length)), ((0, 8), .v (.int .i64 s.fault)), ((2, 0), .v (a.val s.places.length)), ((2, 1), .v (b.val s.status.length)), ((2, 2), .v (c0.val L0.length)), ((2, 3), .v (q.1.2.1.val q.1.2.2.length)), ((2, 4), .v (.slice none 0 0)), ((2, 5), .v (.slice none 0 0)), ((2, 6), .v (.slice none 0 0)), ((2, 7), .v (d.val s.said.length)), ((2, 8), .v (.int .i64 s.fault))] [own q.1.2.1 70 cOnceH 4 q.1.2.2, fO (q.1.2.2.flatMap onceO), fO (semsO c0 L0), own a 3 cInt 1 s.places, own b 3 cInt 1 s.status, own d 3 cInt 1 s.said, fR (stateO s)],
   fun q => s.onces.length - q.1.1, ⟨(0, ⟨none, 0⟩, []), Nat.zero_le _, by simp⟩, ?_, ?_⟩
 · refine weak_shift (.joinO [0, 1] (Gs := [[_], _]) z126 rfl (G := semsO c0 L0) (.of_eq (by simp [semsO, nestO]))) ?_
   refine weak_shift (.joinO [] (Gs := []) trivial rfl (.refl _)) ?_
   exact weak_mk [99, 0, 1, 2, 3, 4, 5] zw2 zw0 zw2 zw5 zw4 rfl rfl
 rintro ⟨⟨k, c1, L1⟩, hk, hL1⟩
 simp only at hk hL1
 have ln1 : L1.length = k := by have := congrArg List.length hL1; simp at this; omega
 apply CaseB.mk <;> intro g
 · have hlt : k < s.onces.length := by simpa using g
   have hw := e_succ k _ hlt (by omega)
   have hsm := (allS_map b3).2 _ (List.getElem_mem hlt)
   unfold Once.small20 at hsm
   refine draw_start tabOk z95 z95 z95 200 [((0, 3), .v (s.h3.val s.onces.length))] [6] [_] z135 z138 ⟨rfl, trivial⟩ rfl ?_
   refine d_idx (ti := tiOf tab) encOnceH tabOk rfl rfl rfl rfl rfl ⟨rfl, rfl⟩ (rdVia 0 rfl (.trans (.R_R (stateO_onces s)) (.ofR nest_h))) k rfl z38 (fun ad => ?_)
   refine BothW.mk ?_ ?_
   all_goals
     refine d_call _ cl144 rfl rfl rfl rfl ⟨rfl, rfl⟩ (fun A w hW => l2Once_c _ _ w ⟨hW.get 6 rfl (.trans (.R_R (stateO_onces s)) (.ofR (oncesO_0 _ _ k hlt))), trivial⟩ (by omega)) ?_
     rintro v L ⟨y0, rfl, rfl⟩
   rotate_left
   · refine BothW.mk ?_ ?_
     all_goals
       refine AllSl.mk fun u2 => ?_
       refine d_app (ti := tiOf tab) encOnceH 2 tabOk (ys := [⟨(s.onces[k]).m, y0⟩]) rfl rfl rfl rfl rfl rfl rfl rfl rfl (by decide) ⟨rfl, rfl⟩ rfl z30 z38 z38 z93 (fun c2 => ?_)
       refine ⟨⟨(k + 1, c2, L1 ++ [⟨(s.onces[k]).m, y0⟩]), hlt, by rw [List.map_append]; exact map_take_succ hlt hL1 rfl⟩, ?_, by simp only; omega⟩
       refine weak_shift (.joinO [2, 3] (Gs := [[_], _]) z126 rfl (G := (L1 ++ [(⟨(s.onces[k]).m, y0⟩ : OnceH)]).flatMap onceO) z43) ?_
       exact weak_mk [1, 0, 3, 4, 5, 6, 7] zw1 zw0 zw1 zw5 zw3 rfl rfl
   refine AllSl.mk fun u2 => ?_
   refine d_app (ti := tiOf tab) encOnceH 2 tabOk (ys := [⟨(s.onces[k]).m, y0⟩]) rfl rfl rfl rfl rfl rfl rfl rfl rfl (by decide) ⟨rfl, rfl⟩ rfl z30 z38 z38 z93 (fun c2 => ?_)
   refine ⟨⟨(k + 1, c2, L1 ++ [⟨(s.onces[k]).m, y0⟩]), hlt, by rw [List.map_append]; exact map_take_succ hlt hL1 rfl⟩, ?_, by simp only; omega⟩
   refine weak_shift (.joinO [2, 3] (Gs := [[_], _]) z126 rfl (G := (L1 ++ [(⟨(s.onces[k]).m, y0⟩ : OnceH)]).flatMap onceO) z43) ?_
   exact weak_mk [1, 0, 3, 4, 5, 6, 7] zw1 zw0 zw1 zw5 zw3 rfl rfl
 have hge : s.onces.length ≤ k := by simpa using g
 rw [List.take_of_length_le z85] at hL1
 refine LoopW.mk ⟨{ q : Nat × Sl × List GroupH // q.1 ≤ s.groups.length ∧ q.2.2.map (·.m) = (s.groups.map (·.m)).take q.1 },
   fun q => .mk [(1, .p 0 0), (2, .p 1 0), (3, .p 2 0), (6, .v (.int .i64 (q.1.1 : Int)))] 3 0 [(0, 30, 9), (1, 30, 9), (2, 30, 9)] [((0, 0), .v (s.h0.val s.places.length)), ((0, 1), .v (s.h1.val s.status.length)), ((0, 2), .v (s.h2.val s.sems.length)), ((0, 3), .v (s.h3.val s.onces.length)), ((0, 4), .v (s.h4.val s.groups.length)), ((0, 5), .v (s.h5.val s.barriers.length)), ((0, 6), .v (s.h6.val s.chans.length)), ((0, 7), .v (s.h7.val s.said.length)), ((0, 8), .v (.int .i64 s.fault)), ((2, 0), .v (a.val s.places.length)), ((2, 1), .v (b.val s.status.length)), ((2, 2), .v (c0.val L0.length)), ((2, 3), .v (c1.val L1.length)), ((2, 4), .v (q.1.2.1.val q.1.2.2.length)), ((2, 5), .v (.slice none 0 0)), ((2, 6), .v (.slice none 0 0)), ((2, 7), .v (d.val s.said.length)), ((2, 8), .v (.int .i64 s.fault))] [own q.1.2.1 74 cGroupH 2 q.1.2.2, fO (q.1.2.2.flatMap groupO), fO (oncesO c1 L1), fO (semsO c0 L0), own a 3 cInt 1 s.places, own b 3 cInt 1 s.status, own d 3 cInt 1 s.said, fR (stateO s)],
   fun q => s.groups.length - q.1.1, ⟨(0, ⟨none, 0⟩, []), Nat.zero_le _, by simp⟩, ?_, ?_⟩
 · refine weak_shift (.joinO [0, 1] (Gs := [[_], _]) z126 rfl (G := oncesO c1 L1) (.of_eq (by simp [oncesO, nestO]))) ?_
   refine weak_shift (.joinO [] (Gs := []) trivial rfl (.refl _)) ?_
   exact weak_mk [99, 0, 1, 2, 3, 4, 5, 6] zw2 zw0 zw2 zw5 zw4 rfl rfl
 rintro ⟨⟨k, c2, L2⟩, hk, hL2⟩
 simp only at hk hL2
 have ln2 : L2.length = k := by have := congrArg List.length hL2; simp at this; omega
 apply CaseB.mk <;> intro g
 · have hlt : k < s.groups.length := by simpa using g
   have hw := e_succ k _ hlt (by omega)
   have hsm := (allS_map b4).2 _ (List.getElem_mem hlt)
   unfold Group.small20 at hsm
   refine draw_start tabOk z95 z95 z95 200 [((0, 4), .v (s.h4.val s.groups.length))] [7] [_] z135 z138 ⟨rfl, trivial⟩ rfl ?_
   refine d_idx (ti := tiOf tab) encGroupH tabOk rfl rfl rfl rfl rfl ⟨rfl, rfl⟩ (rdVia 0 rfl (.trans (.R_R (stateO_groups s)) (.ofR nest_h))) k rfl z38 (fun ad => ?_)
   refine d_idx (ti := tiOf tab) encGroupH tabOk rfl rfl rfl rfl rfl ⟨rfl, rfl⟩ (rdVia 0 rfl (.trans (.R_R (stateO_groups s)) (.ofR nest_h))) k rfl z38 (fun ad2 => ?_)
   refine BothW.mk ?_ ?_
   · skip
     refine AllSl.mk fun u1 => ?_
     refine d_app (ti := tiOf tab) encInt 0 tabOk (xs := []) (ys := (s.groups[k]).m.waits) rfl rfl rfl rfl rfl rfl rfl rfl rfl (by decide) ⟨rfl, rfl⟩ rfl (rdVia 8 rfl (.trans (.R_R (stateO_groups s)) (.ofR (groupsO_0 _ _ k hlt)))) z38 z38 z93 (fun y0 => ?_)
     refine AllSl.mk fun u2 => ?_
     refine d_app (ti := tiOf tab) encGroupH 2 tabOk (ys := [⟨(s.groups[k]).m, y0⟩]) rfl rfl rfl rfl rfl rfl rfl rfl rfl (by decide) ⟨rfl, rfl⟩ rfl z30 z38 z38 z93 (fun c2 => ?_)
     refine ⟨⟨(k + 1, c2, L2 ++ [⟨(s.groups[k]).m, y0⟩]), hlt, by rw [List.map_append]; exact map_take_succ hlt hL2 rfl⟩, ?_, by simp only; omega⟩
     refine weak_shift (.joinO [2, 3] (Gs := [[_], _]) z126 rfl (G := (L2 ++ [(⟨(s.groups[k]).m, y0⟩ : GroupH)]).flatMap groupO) z42) ?_
     exact weak_mk [1, 0, 3, 4, 5, 6, 7, 8] zw1 zw0 zw1 zw5 zw3 rfl rfl
   refine AllSl.mk fun u1 => ?_
   refine BothW.mk ?_ ?_
   · skip
     refine d_app (ti := tiOf tab) encInt 0 tabOk (xs := []) (ys := (s.groups[k]).m.waits) rfl rfl rfl rfl rfl rfl rfl rfl rfl (by decide) ⟨rfl, rfl⟩ rfl (rdVia 8 rfl (.trans (.R_R (stateO_groups s)) (.ofR (groupsO_0 _ _ k hlt)))) z38 z38 z93 (fun y0 => ?_)
     refine AllSl.mk fun u2 => ?_
     refine d_app (ti := tiOf tab) encGroupH 2 tabOk (ys := [⟨(s.groups[k]).m, y0⟩]) rfl rfl rfl rfl rfl rfl rfl rfl rfl (by decide) ⟨rfl, rfl⟩ rfl z30 z38 z38 z93 (fun c2 => ?_)
     refine ⟨⟨(k + 1, c2, L2 ++ [⟨(s.groups[k]).m, y0⟩]), hlt, by rw [List.map_append]; exact map_take_succ hlt hL2 rfl⟩, ?_, by simp only; omega⟩
     refine weak_shift (.joinO [2, 3] (Gs := [[_], _]) z126 rfl (G := (L2 ++ [(⟨(s.groups[k]).m, y0⟩ : GroupH)]).flatMap groupO) z42) ?_
     exact weak_mk [1, 0, 3, 4, 5, 6, 7, 8] zw1 zw0 zw1 zw5 zw3 rfl rfl
   refine d_app (ti := tiOf tab) encInt 0 tabOk (xs := []) (ys := (s.groups[k]).m.waits) rfl rfl rfl rfl rfl rfl rfl rfl rfl (by decide) ⟨rfl, rfl⟩ rfl (rdVia 8 rfl (.trans (.R_R (stateO_groups s)) (.ofR (groupsO_0 _ _ k hlt)))) z38 z38 z93 (fun y0 => ?_)
   refine BothW.mk ?_ ?_
   all_goals
     refine AllSl.mk fun u2 => ?_
     refine d_app (ti := tiOf tab) encGroupH 2 tabOk (ys := [⟨(s.groups[k]).m, y0⟩]) rfl rfl rfl rfl rfl rfl rfl rfl rfl (by decide) ⟨rfl, rfl⟩ rfl z30 z38 z38 z93 (fun c2 => ?_)
     refine ⟨⟨(k + 1, c2, L2 ++ [⟨(s.groups[k]).m, y0⟩]), hlt, by rw [List.map_append]; exact map_take_succ hlt hL2 rfl⟩, ?_, by simp only; omega⟩
     refine weak_shift (.joinO [2, 3] (Gs := [[_], _]) z126 rfl (G := (L2 ++ [(⟨(s.groups[k]).m, y0⟩ : GroupH)]).flatMap groupO) z42) ?_
     exact weak_mk [1, 0, 3, 4, 5, 6, 7, 8] zw1 zw0 zw1 zw5 zw3 rfl rfl
 have hge : s.groups.length ≤ k := by simpa using g
 rw [List.take_of_length_le z85] at hL2
 refine LoopW.mk ⟨{ q : Nat × Sl × List BarrierH // q.1 ≤ s.barriers.length ∧ q.2.2.map (·.m) = (s.barriers.map (·.m)).take q.1 },
   fun q => .mk [(1, .p 0 0), (2, .p 1 0), (3, .p 2 0), (7, .v (.int .i64 (q.1.1 : Int)))] 3 0 [(0, 30, 9), (1, 30, 9), (2, 30, 9)] [((0, 0), .v (s.h0.val s.places.length)), ((0, 1), .v (s.h1.val s.status.length)), ((0, 2), .v (s.h2.val s.sems.length)), ((0, 3), .v (s.h3.val s.onces.length)), ((0, 4), .v (s.h4.val s.groups.length)), ((0, 5), .v (s.h5.val s.barriers.length)), ((0, 6), .v (s.h6.val s.chans.length)), ((0, 7), .v (s.h7.val s.said.length)), ((0, 8), .v (.int .i64 s.fault)), ((2, 0), .v (a.val s.places.length)), ((2, 1), .v (b.val s.status.length)), ((2, 2), .v (c0.val L0.length)), ((2, 3), .v (c1.val L1.length)), ((2, 4), .v (c2.val L2.length)), ((2, 5), .v (q.1.2.1.val q.1.2.2.length)), ((2, 6), .v (.slice none 0 0)), ((2, 7), .v (d.val s.said.length)), ((2, 8), .v (.int .i64 s.fault))] [own q.1.2.1 65 cBarrierH 3 q.1.2.2, fO (q.1.2.2.flatMap barrierO), fO (groupsO c2 L2), fO (oncesO c1 L1), fO (semsO c0 L0), own a 3 cInt 1 s.places, own b 3 cInt 1 s.status, own d 3 cInt 1 s.said, fR (stateO s)],
   fun q => s.barriers.length - q.1.1, ⟨(0, ⟨none, 0⟩, []), Nat.zero_le _, by simp⟩, ?_, ?_⟩
 · refine weak_shift (.joinO [0, 1] (Gs := [[_], _]) z126 rfl (G := groupsO c2 L2) (.of_eq (by simp [groupsO, nestO]))) ?_
   refine weak_shift (.joinO [] (Gs := []) trivial rfl (.refl _)) ?_
   exact weak_mk [99, 0, 1, 2, 3, 4, 5, 6, 7] zw2 zw0 zw2 zw5 zw4 rfl rfl
 rintro ⟨⟨k, c3, L3⟩, hk, hL3⟩
 simp only at hk hL3
 have ln3 : L3.length = k := by have := congrArg List.length hL3; simp at this; omega
 apply CaseB.mk <;> intro g
 · have hlt : k < s.barriers.length := by simpa using g
   have hw := e_succ k _ hlt (by omega)
   have hsm := (allS_map b5).2 _ (List.getElem_mem hlt)
   unfold Barrier.small20 at hsm
   refine stop_idx encBarrierH tabOk rfl rfl rfl rfl rfl ⟨rfl, rfl⟩ (rdVia 8 rfl (.trans (.R_R (stateO_barriers s)) (.ofR nest_h))) k rfl z38 (fun ad => ?_)
   refine draw_start tabOk z95 z95 z95 200 [((3, 0), .v (.int .i64 (s.barriers[k]).m.parties)), ((3, 1), .v (.int .i64 (s.barriers[k]).m.round)), ((3, 2), .v ((s.barriers[k]).q.val (s.barriers[k]).m.waits.length))] [8] [_] z118 z130 ⟨rfl, trivial⟩ rfl ?_
   refine BothW.mk ?_ ?_
   · skip
     refine AllSl.mk fun u1 => ?_
     refine d_app (ti := tiOf tab) encInt 0 tabOk (xs := []) (ys := (s.barriers[k]).m.waits) rfl rfl rfl rfl rfl rfl rfl rfl rfl (by decide) ⟨rfl, rfl⟩ rfl (rdVia 9 rfl (.trans (.R_R (stateO_barriers s)) (.ofR (barriersO_0 _ _ k hlt)))) z38 z38 z93 (fun y0 => ?_)
     refine AllSl.mk fun u2 => ?_
     refine d_app (ti := tiOf tab) encBarrierH 2 tabOk (ys := [⟨(s.barriers[k]).m, y0⟩]) rfl rfl rfl rfl rfl rfl rfl rfl rfl (by decide) ⟨rfl, rfl⟩ rfl z30 z38 z38 z93 (fun c2 => ?_)
     refine ⟨⟨(k + 1, c2, L3 ++ [⟨(s.barriers[k]).m, y0⟩]), hlt, by rw [List.map_append]; exact map_take_succ hlt hL3 rfl⟩, ?_, by simp only; omega⟩
     refine weak_shift (.joinO [2, 3] (Gs := [[_], _]) z126 rfl (G := (L3 ++ [(⟨(s.barriers[k]).m, y0⟩ : BarrierH)]).flatMap barrierO) z41) ?_
     exact weak_mk [1, 0, 3, 4, 5, 6, 7, 8, 9] zw1 zw0 zw1 zw5 zw3 rfl rfl
   refine AllSl.mk fun u1 => ?_
   refine BothW.mk ?_ ?_
   · skip
     refine d_app (ti := tiOf tab) encInt 0 tabOk (xs := []) (ys := (s.barriers[k]).m.waits) rfl rfl rfl rfl rfl rfl rfl rfl rfl (by decide) ⟨rfl, rfl⟩ rfl (rdVia 9 rfl (.trans (.R_R (stateO_barriers s)) (.ofR (barriersO_0 _ _ k hlt)))) z38 z38 z93 (fun y0 => ?_)
     refine AllSl.mk fun u2 => ?_
     refine d_app (ti := tiOf tab) encBarrierH 2 tabOk (ys := [⟨(s.barriers[k]).m, y0⟩]) rfl rfl rfl rfl rfl rfl rfl rfl rfl (by decide) ⟨rfl, rfl⟩ rfl z30 z38 z38 z93 (fun c2 => ?_)
     refine ⟨⟨(k + 1, c2, L3 ++ [⟨(s.barriers[k]).m, y0⟩]), hlt, by rw [List.map_append]; exact map_take_succ hlt hL3 rfl⟩, ?_, by simp only; omega⟩
     refine weak_shift (.joinO [2, 3] (Gs := [[_], _]) z126 rfl (G := (L3 ++ [(⟨(s.barriers[k]).m, y0⟩ : BarrierH)]).flatMap barrierO) z41) ?_
     exact weak_mk [1, 0, 3, 4, 5, 6, 7, 8, 9] zw1 zw0 zw1 zw5 zw3 rfl rfl
   refine d_app (ti := tiOf tab) encInt 0 tabOk (xs := []) (ys := (s.barriers[k]).m.waits) rfl rfl rfl rfl rfl rfl rfl rfl rfl (by decide) ⟨rfl, rfl⟩ rfl (rdVia 9 rfl (.trans (.R_R (stateO_barriers s)) (.ofR (barriersO_0 _ _ k hlt)))) z38 z38 z93 (fun y0 => ?_)
   refine BothW.mk ?_ ?_
   all_goals
     refine AllSl.mk fun u2 => ?_
     refine d_app (ti := tiOf tab) encBarrierH 2 tabOk (ys := [⟨(s.barriers[k]).m, y0⟩]) rfl rfl rfl rfl rfl rfl rfl rfl rfl (by decide) ⟨rfl, rfl⟩ rfl z30 z38 z38 z93 (fun c2 => ?_)
     refine ⟨⟨(k + 1, c2, L3 ++ [⟨(s.barriers[k]).m, y0⟩]), hlt, by rw [List.map_append]; exact map_take_succ hlt hL3 rfl⟩, ?_, by simp only; omega⟩
     refine weak_shift (.joinO [2, 3] (Gs := [[_], _]) z126 rfl (G := (L3 ++ [(⟨(s.barriers[k]).m, y0⟩ : BarrierH)]).flatMap barrierO) z41) ?_
     exact weak_mk [1, 0, 3, 4, 5, 6, 7, 8, 9] zw1 zw0 zw1 zw5 zw3 rfl rfl
 have hge : s.barriers.length ≤ k := by simpa using g
 rw [List.take_of_length_le z85] at hL3
 refine LoopW.mk ⟨{ q : Nat × Sl × List ChanH // q.1 ≤ s.chans.length ∧ q.2.2.map (·.m) = (s.chans.map (·.m)).take q.1 },
   fun q => .mk [(1, .p 0 0), (2, .p 1 0), (3, .p 2 0), (9, .v (.int .i64 (q.1.1 : Int)))] 3 0 [(0, 30, 9), (1, 30, 9), (2, 30, 9)] [((0, 0), .v (s.h0.val s.places.length)), ((0, 1), .v (s.h1.val s.status.length)), ((0, 2), .v (s.h2.val s.sems.length)), ((0, 3), .v (s.h3.val s.onces.length)), ((0, 4), .v (s.h4.val s.groups.length)), ((0, 5), .v (s.h5.val s.barriers.length)), ((0, 6), .v (s.h6.val s.chans.length)), ((0, 7), .v (s.h7.val s.said.length)), ((0, 8), .v (.int .i64 s.fault)), ((2, 0), .v (a.val s.places.length)), ((2, 1), .v (b.val s.status.length)), ((2, 2), .v (c0.val L0.length)), ((2, 3), .v (c1.val L1.length)), ((2, 4), .v (c2.val L2.length)), ((2, 5), .v (c3.val L3.length)), ((2, 6), .v (q.1.2.1.val q.1.2.2.length)), ((2, 7), .v (d.val s.said.length)), ((2, 8), .v (.int .i64 s.fault))] [own q.1.2.1 80 cChanH 5 q.1.2.2, fO (q.1.2.2.flatMap chanO), fO (barriersO c3 L3), fO (groupsO c2 L2), fO (oncesO c1 L1), fO (semsO c0 L0), own a 3 cInt 1 s.places, own b 3 cInt 1 s.status, own d 3 cInt 1 s.said, fR (stateO s)],
   fun q => s.chans.length - q.1.1, ⟨(0, ⟨none, 0⟩, []), Nat.zero_le _, by simp⟩, ?_, ?_⟩
 · refine weak_shift (.joinO [0, 1] (Gs := [[_], _]) z126 rfl (G := barriersO c3 L3) (.of_eq (by simp [barriersO, nestO]))) ?_
   refine weak_shift (.joinO [] (Gs := []) trivial rfl (.refl _)) ?_
   exact weak_mk [99, 0, 1, 2, 3, 4, 5, 6, 7, 8] zw2 zw0 zw2 zw5 zw4 rfl rfl
 rintro ⟨⟨k, c4, L4⟩, hk, hL4⟩
 simp only at hk hL4
 have ln4 : L4.length = k := by have := congrArg List.length hL4; simp at this; omega
 apply CaseB.mk <;> intro g
 · have hlt : k < s.chans.length := by simpa using g
   have hw := e_succ k _ hlt (by omega)
   have hsm := (allS_map b6).2 _ (List.getElem_mem hlt)
   obtain ⟨z0, z1, z2⟩ := hsm
   refine draw_start tabOk z95 z95 z95 200 [((0, 6), .v (s.h6.val s.chans.length))] [9] [_] z135 z138 ⟨rfl, trivial⟩ rfl ?_
   refine d_idx (ti := tiOf tab) encChanH tabOk rfl rfl rfl rfl rfl ⟨rfl, rfl⟩ (rdVia 0 rfl (.trans (.R_R (stateO_chans s)) (.ofR nest_h))) k rfl z38 (fun ad => ?_)
   refine BothW.mk ?_ ?_
   all_goals
     refine d_call _ cl145 rfl rfl rfl rfl ⟨rfl, rfl⟩ (fun A w hW => copy_c _ _ _ _ w ⟨hW.get 9 rfl (.trans (.R_R (stateO_chans s)) (.ofR (chansO_0 _ _ k hlt))), hW.get 9 rfl (.trans (.R_R (stateO_chans s)) (.ofR (chansO_1 _ _ k hlt))), hW.get 9 rfl (.trans (.R_R (stateO_chans s)) (.ofR (chansO_2 _ _ k hlt))), trivial⟩ ⟨by omega, by omega, by omega⟩) ?_
     rintro v L ⟨y0, y1, y2, rfl, rfl⟩
   rotate_left
   · refine BothW.mk ?_ ?_
     all_goals
       refine AllSl.mk fun u2 => ?_
       refine d_app (ti := tiOf tab) encChanH 4 tabOk (ys := [⟨(s.chans[k]).m, y0, y1, y2⟩]) rfl rfl rfl rfl rfl rfl rfl rfl rfl (by decide) ⟨rfl, rfl⟩ rfl z30 z38 z38 z93 (fun c2 => ?_)
       refine ⟨⟨(k + 1, c2, L4 ++ [⟨(s.chans[k]).m, y0, y1, y2⟩]), hlt, by rw [List.map_append]; exact map_take_succ hlt hL4 rfl⟩, ?_, by simp only; omega⟩
       refine weak_shift (.joinO [2, 3, 4, 5] (Gs := [[_], [_], [_], _]) z110 rfl (G := (L4 ++ [(⟨(s.chans[k]).m, y0, y1, y2⟩ : ChanH)]).flatMap chanO) z44) ?_
       exact weak_mk [1, 0, 3, 4, 5, 6, 7, 8, 9, 10] zw1 zw0 zw1 zw5 zw3 rfl rfl
   refine AllSl.mk fun u2 => ?_
   refine d_app (ti := tiOf tab) encChanH 4 tabOk (ys := [⟨(s.chans[k]).m, y0, y1, y2⟩]) rfl rfl rfl rfl rfl rfl rfl rfl rfl (by decide) ⟨rfl, rfl⟩ rfl z30 z38 z38 z93 (fun c2 => ?_)
   refine ⟨⟨(k + 1, c2, L4 ++ [⟨(s.chans[k]).m, y0, y1, y2⟩]), hlt, by rw [List.map_append]; exact map_take_succ hlt hL4 rfl⟩, ?_, by simp only; omega⟩
   refine weak_shift (.joinO [2, 3, 4, 5] (Gs := [[_], [_], [_], _]) z110 rfl (G := (L4 ++ [(⟨(s.chans[k]).m, y0, y1, y2⟩ : ChanH)]).flatMap chanO) z44) ?_
   exact weak_mk [1, 0, 3, 4, 5, 6, 7, 8, 9, 10] zw1 zw0 zw1 zw5 zw3 rfl rfl
 have hge : s.chans.length ≤ k := by simpa using g
 rw [List.take_of_length_le z85] at hL4
 refine ret_shift (.joinO [0, 1] (Gs := [[_], _]) z126 rfl (G := chansO c4 L4) (.of_eq (by simp [chansO, nestO]))) ?_
 generalize hy : (⟨s.places, s.status, L0, L1, L2, L3, L4, s.said, s.fault, a, b, c0, c1, c2, c3, c4, d⟩ : StateH) = y
 refine ret_shift (.joinO [5, 6, 4, 3, 2, 1, 0, 7] (Gs := [[_], [_], _, _, _, _, _, [_]]) z102 rfl (G := stateO y) (by subst hy; exact .of_eq z90)) ?_
 exact retw [0] ⟨y, by rw [← hy]; rfl, by rw [← hy]; simp [StateH.pure, hL0, hL1, hL2, hL3, hL4], rfl⟩ z133 rfl ⟨rfl, trivial⟩ (fun _ => rfl)
theorem neWaiter (x y : Waiter) (w : World) : (binOp .neq 137 (.agg (cWaiter x).toArray) (.agg (cWaiter y).toArray)).run Tryz.prog w = .ok (.bool (decide (x ≠ y))) w := by
 have h := neq_ints (P := Tryz.prog) (t := 137) (it := 3) (xs := [x.t, x.n]) (ys := [y.t, y.n]) z95 z95 z95 rfl z95 w
 have e : ([x.t, x.n] ≠ [y.t, y.n]) ↔ x ≠ y := by cases x; cases y; simp
 rw [show decide (x ≠ y) = decide ([x.t, x.n] ≠ [y.t, y.n]) from by simp only [e]]
 exact h
set_option maxRecDepth 100000 in
theorem eqWaiters_c (i j : Sl) (xs ys : List Waiter) (w : World) (h : At w [slo i cWaiter 2 xs, slo j cWaiter 2 ys]) (hb : xs.length ≤ 4294967296) (hb2 : ys.length ≤ 4294967296) :
   Calls Tryz.prog 97 #[i.val xs.length, j.val ys.length] w (Ret w fun v L => v = .bool (decide (xs = ys)) ∧ L = []) := by
 refine calls2 Tryz.func97 rfl tabOk w _ rfl _ rfl _ h ⟨rfl, rfl, rfl, rfl, trivial⟩ _ _ (by decide) ?_
 refine CaseB.mk (fun h => ?_) (fun h => ?_)
 · have hne : xs ≠ ys := by rintro rfl; simp at h
   refine ret0 ⟨?_, rfl⟩ (fun _ => rfl)
   simp [hne]
 · have hl : xs.length = ys.length := by simp at h; omega
   refine LoopW.mk ⟨{ k : Nat // k ≤ xs.length ∧ xs.take k = ys.take k },
     fun p => .mk [(0, .v (i.val xs.length)), (1, .v (j.val ys.length)), (12, .v (.int .i64 xs.length)), (13, .v (.int .i64 p.1))] 0 0 [] [] [slo i cWaiter 2 xs, slo j cWaiter 2 ys],
     fun p => xs.length - p.1, ⟨0, Nat.zero_le _, rfl⟩, ?_, ?_⟩
   · exact weak_mk [0, 1] zw2 zw0 zw2 zw5 zw4 rfl rfl
   · rintro ⟨k, hk, he⟩
     refine CaseB.mk (fun h => ?_) (fun h => ?_)
     · have hlt : k < xs.length := by simpa using h
       have hlt2 : k < ys.length := by omega
       obtain ⟨q1, q2⟩ := take_eq_succ he hlt hlt2
       refine draw_start tabOk z95 z95 z95 200 [] [0, 1] [_, _] trivial trivial ⟨rfl, rfl, trivial⟩ rfl ?_
       refine d_idx (ti := tiOf tab) encWaiter tabOk rfl rfl rfl rfl rfl ⟨rfl, rfl⟩ z30 k rfl z38 (fun ad => ?_)
       refine d_idx (ti := tiOf tab) encWaiter tabOk rfl rfl rfl rfl rfl ⟨rfl, rfl⟩ z30 k rfl z38 (fun ad2 => ?_)
       refine d_bin rfl rfl rfl ⟨rfl, rfl⟩ (.bool (decide (xs[k] ≠ ys[k]))) (fun w => (run_eqGuard_agg w _ _ _ _ _ _ z95)) (fun w => (neWaiter _ _ w)) ?_
       refine CaseB.mk (fun h => ?_) (fun h => ?_)
       · have hne := q2 z89
         refine ret0 ⟨?_, rfl⟩ (fun _ => rfl)
         simp [hne]
       · have heq := q1 z89
         have hw := wrapN k _ hlt hb
         refine ⟨⟨k + 1, by omega, heq⟩, ?_, by simp; omega⟩
         exact weak_mk [0, 1] zw1 zw0 zw1 zw5 zw3 rfl rfl
     · have hge : xs.length ≤ k := by simpa using h
       have heq : xs = ys := by rw [List.take_of_length_le hge, List.take_of_length_le (by omega)] at he; exact he
       refine ret0 ⟨?_, rfl⟩ (fun _ => rfl)
       simp [heq]
set_option maxRecDepth 100000 in
theorem semSame_c (m k : Sem) (q q2 : Sl) (w : World) (h : At w [slo q cWaiter 2 m.queue, slo q2 cWaiter 2 k.queue]) (hb : m.queue.length ≤ 4294967296) (hb2 : k.queue.length ≤ 4294967296) :
   Calls Tryz.prog 38 #[semV m q, semV k q2] w (Ret w fun v L => v = .bool (decide (m = k)) ∧ L = []) := by
 have hx : m = k ↔ m.free = k.free ∧ m.limit = k.limit ∧ m.queue = k.queue := by cases m; cases k; simp
 refine calls2 Tryz.func38 rfl tabOk w _ rfl _ rfl _ h ⟨rfl, rfl, rfl, rfl, trivial⟩ _ _ (by decide) ?_
 refine CaseB.mk (fun h0 => ?_) (fun h0 => ?_)
 rotate_left
 · refine ret0 ⟨?_, rfl⟩ (fun _ => rfl)
   simp at h0
   simp [hx, h0]
 refine CaseB.mk (fun h1 => ?_) (fun h1 => ?_)
 rotate_left
 · refine ret0 ⟨?_, rfl⟩ (fun _ => rfl)
   simp at h1
   simp [hx, h1]
 refine stop_call _ cl97 rfl rfl rfl rfl ⟨rfl, rfl⟩ (fun A w hW => eqWaiters_c q q2 m.queue k.queue w ⟨z29, z29, trivial⟩ hb hb2) ?_
 rintro v L ⟨rfl, rfl⟩
 refine ret0 ⟨?_, rfl⟩ (fun _ => rfl)
 simp at h0 h1
 simp [hx, h0, h1]
set_option maxRecDepth 100000 in
theorem onceSame_c (m k : Once) (q q2 : Sl) (w : World) (h : At w [slo q cInt 1 m.waits, slo q2 cInt 1 k.waits]) (hb : m.waits.length ≤ 4294967296) (hb2 : k.waits.length ≤ 4294967296) :
   Calls Tryz.prog 48 #[onceV m q, onceV k q2] w (Ret w fun v L => v = .bool (decide (m = k)) ∧ L = []) := by
 have hx : m = k ↔ m.state = k.state ∧ m.owner = k.owner ∧ m.value = k.value ∧ m.waits = k.waits := by cases m; cases k; simp
 refine calls2 Tryz.func48 rfl tabOk w _ rfl _ rfl _ h ⟨rfl, rfl, rfl, rfl, trivial⟩ _ _ (by decide) ?_
 refine CaseB.mk (fun h0 => ?_) (fun h0 => ?_)
 rotate_left
 · refine ret0 ⟨?_, rfl⟩ (fun _ => rfl)
   simp at h0
   simp [hx, h0]
 refine CaseB.mk (fun h1 => ?_) (fun h1 => ?_)
 rotate_left
 · refine ret0 ⟨?_, rfl⟩ (fun _ => rfl)
   simp at h1
   simp [hx, h1]
 refine CaseB.mk (fun h2 => ?_) (fun h2 => ?_)
 rotate_left
 · refine ret0 ⟨?_, rfl⟩ (fun _ => rfl)
   simp at h2
   simp [hx, h2]
 refine stop_call _ cl45 rfl rfl rfl rfl ⟨rfl, rfl⟩ (fun A w hW => eqInts_c q q2 m.waits k.waits w ⟨z29, z29, trivial⟩ hb hb2) ?_
 rintro v L ⟨rfl, rfl⟩
 refine ret0 ⟨?_, rfl⟩ (fun _ => rfl)
 simp at h0 h1 h2
 simp [hx, h0, h1, h2]
set_option maxRecDepth 100000 in
theorem groupSame_c (m k : Group) (q q2 : Sl) (w : World) (h : At w [slo q cInt 1 m.waits, slo q2 cInt 1 k.waits]) (hb : m.waits.length ≤ 4294967296) (hb2 : k.waits.length ≤ 4294967296) :
   Calls Tryz.prog 50 #[groupV m q, groupV k q2] w (Ret w fun v L => v = .bool (decide (m = k)) ∧ L = []) := by
 have hx : m = k ↔ m.count = k.count ∧ m.waits = k.waits := by cases m; cases k; simp
 refine calls2 Tryz.func50 rfl tabOk w _ rfl _ rfl _ h ⟨rfl, rfl, rfl, rfl, trivial⟩ _ _ (by decide) ?_
 refine CaseB.mk (fun h0 => ?_) (fun h0 => ?_)
 rotate_left
 · refine ret0 ⟨?_, rfl⟩ (fun _ => rfl)
   simp at h0
   simp [hx, h0]
 refine stop_call _ cl45 rfl rfl rfl rfl ⟨rfl, rfl⟩ (fun A w hW => eqInts_c q q2 m.waits k.waits w ⟨z29, z29, trivial⟩ hb hb2) ?_
 rintro v L ⟨rfl, rfl⟩
 refine ret0 ⟨?_, rfl⟩ (fun _ => rfl)
 simp at h0
 simp [hx, h0]
set_option maxRecDepth 100000 in
theorem barrierSame_c (m k : Barrier) (q q2 : Sl) (w : World) (h : At w [slo q cInt 1 m.waits, slo q2 cInt 1 k.waits]) (hb : m.waits.length ≤ 4294967296) (hb2 : k.waits.length ≤ 4294967296) :
   Calls Tryz.prog 44 #[barrierV m q, barrierV k q2] w (Ret w fun v L => v = .bool (decide (m = k)) ∧ L = []) := by
 have hx : m = k ↔ m.parties = k.parties ∧ m.round = k.round ∧ m.waits = k.waits := by cases m; cases k; simp
 refine calls2 Tryz.func44 rfl tabOk w _ rfl _ rfl _ h ⟨rfl, rfl, rfl, rfl, trivial⟩ _ _ (by decide) ?_
 refine CaseB.mk (fun h0 => ?_) (fun h0 => ?_)
 rotate_left
 · refine ret0 ⟨?_, rfl⟩ (fun _ => rfl)
   simp at h0
   simp [hx, h0]
 refine CaseB.mk (fun h1 => ?_) (fun h1 => ?_)
 rotate_left
 · refine ret0 ⟨?_, rfl⟩ (fun _ => rfl)
   simp at h1
   simp [hx, h1]
 refine stop_call _ cl45 rfl rfl rfl rfl ⟨rfl, rfl⟩ (fun A w hW => eqInts_c q q2 m.waits k.waits w ⟨z29, z29, trivial⟩ hb hb2) ?_
 rintro v L ⟨rfl, rfl⟩
 refine ret0 ⟨?_, rfl⟩ (fun _ => rfl)
 simp at h0 h1
 simp [hx, h0, h1]
theorem readyAns_one (p : Prog) (s : State) (hs : s.small20) : ∃ A : List Int, A.length ≤ 1048576 ∧ ∀ xs : List Int, (Fits p s → xs = readyM s) → (¬ Fits p s → xs = []) → xs = A := by
 by_cases h : Fits p s
 · refine ⟨readyM s, ?_, fun xs h1 _ => h1 h⟩
   have h2 : s.status.length ≤ 1048576 := hs.2.1
   rw [readyM]
   split
   · exact Nat.le_trans (readyL_len _) h2
   · simp
 · exact ⟨[], by simp, fun xs _ h2 => h2 h⟩
theorem doM_small {p : Prog} {s : State} {t : Int} (ft : Fits p s) (h : t ∈ readyM s) (hl : (doM p s t).said.length ≤ 64) : (doM p s t).small20 := by
 by_cases hw : Worn p s t
 · obtain ⟨k, ops, a, st, op, rfl, r⟩ := rdy ft h
   rw [Worn, r.at_] at hw
   obtain ⟨k7, hw⟩ := hw
   have e : doM p s (k : Int) = waitM (setBarrier s op ⟨0, 0, []⟩) k 1 := by
     simp only [doM, r.at_, doOp, k7, doArrive, hw]
     simp
   rw [e]
   obtain ⟨b0, b1, b2, b3, b4, b5, b6, b7⟩ := ft.small
   refine ⟨b0, by simpa [waitM, setBarrier] using b1, b2, b3, b4, ⟨by simpa [waitM, setBarrier] using b5.1, fun x hx => ?_⟩, b6, b7⟩
   rcases List.mem_or_eq_of_mem_set hx with hx | rfl
   · exact b5.2 x hx
   · simp [Barrier.small20]
 · exact (step_fits ft h hl hw).small
def StepRS (p : Prog) (s : State) (t : Int) (v : Value) (L : List Fct) : Prop := ∃ (y : StateH) (b : Bool), v = .tuple #[stateV y, .bool b] ∧ (b = true ↔ StepOk p s t) ∧ (b = true → y.pure = doM p s t) ∧ (b = false → y.pure = State.zero) ∧ L = [fN (stateO y)]
set_option maxHeartbeats 32000000 in
set_option maxRecDepth 100000 in
theorem stepThreadS_c (p : ProgH) (s : StateH) (t : Int) (w : World) (h : At w [fR (progO p), fR (stateO s)]) (hp : p.pure.small20) (hs : s.pure.small20) :
   Calls Tryz.prog 37 #[progV p, stateV s, .int .i64 t] w (Ret w (StepRS p.pure s.pure t)) := by
 have hb : s.status.length ≤ 1048576 := hs.2.1
 obtain ⟨A, hA, one⟩ := readyAns_one p.pure s.pure hs
 refine calls3 Tryz.func37 rfl tabOk w _ rfl _ rfl _ h ⟨rfl, rfl, rfl, rfl, trivial⟩ _ _ _ (by decide) ?_
 refine stop_call _ cl31 rfl rfl rfl rfl ⟨rfl, rfl⟩ (fun A w hW => readyThreadsS_c p s w ⟨hW.get 0 rfl (.refl _), hW.get 1 rfl (.refl _), trivial⟩ hp hs) ?_
 rintro v L ⟨yr, xs, rfl, h1, h2, rfl⟩
 have hxl : xs.length ≤ 1048576 := by rw [one xs h1 h2]; exact hA
 refine stop_call _ cl94 rfl rfl rfl rfl ⟨rfl, rfl⟩ (fun A w hW => l2At_c yr xs t w ⟨z29, trivial⟩ (by omega)) ?_
 rintro v L ⟨rfl, rfl⟩
 apply CaseB.mk <;> intro g
 · have hn : t ∉ xs := fun hm => by have := (atM_mem xs t).2 hm; have g' := of_decide_eq_true g; omega
   have n : ¬ StepOk p.pure s.pure t := fun e => hn (by rw [h1 e.1]; exact e.2.1)
   refine ret_shift (.joinO [90] (Gs := [_]) ⟨.inr ⟨Nat.le_of_ble_eq_true rfl, zero_nil⟩, trivial⟩ rfl (G := stateO StateH.zero) (.of_eq (by simp))) ?_
   refine ret_shift (Shift.pack (G := stateO StateH.zero) (fun g hg => inON 0 rfl hg)) ?_
   exact retw [0] ⟨StateH.zero, false, rfl, tno n, fun e => z98, fun _ => rfl, rfl⟩ z133 rfl ⟨rfl, trivial⟩ (fun _ => rfl)
 have hmx : t ∈ xs := (atM_mem xs t).1 (by have g' := of_decide_eq_false g; omega)
 have ft : Fits p.pure s.pure := Classical.byContradiction fun n => by rw [h2 n] at hmx; cases hmx
 have hm : t ∈ readyM s.pure := by rw [← h1 ft]; exact hmx
 obtain ⟨_, k, _, rfl, _⟩ := readyM_mem hm
 refine draw_cut { y : StateH // y.pure = doM p.pure s.pure k } (fun y => .mk [(3, .p 0 0), (6, .p 2 0), (8, .p 3 0)] 4 0 [(0, 37, 5), (2, 30, 9), (3, 30, 9)] [((0, 0), .v (p.h0.val p.sems.length)), ((0, 1), .v (p.h1.val p.groups.length)), ((0, 2), .v (p.h2.val p.barriers.length)), ((0, 3), .v (p.h3.val p.rooms.length)), ((0, 4), .v (p.h4.val p.threads.length)), ((3, 0), .v (y.1.h0.val y.1.places.length)), ((3, 1), .v (y.1.h1.val y.1.status.length)), ((3, 2), .v (y.1.h2.val y.1.sems.length)), ((3, 3), .v (y.1.h3.val y.1.onces.length)), ((3, 4), .v (y.1.h4.val y.1.groups.length)), ((3, 5), .v (y.1.h5.val y.1.barriers.length)), ((3, 6), .v (y.1.h6.val y.1.chans.length)), ((3, 7), .v (y.1.h7.val y.1.said.length)), ((3, 8), .v (.int .i64 y.1.fault))] [fN (stateO y.1), fR (progO p)]) ?_ ?_
 · refine draw_start tabOk z95 z95 z95 200 [((0, 0), .v (p.h0.val p.sems.length)), ((0, 1), .v (p.h1.val p.groups.length)), ((0, 2), .v (p.h2.val p.barriers.length)), ((0, 3), .v (p.h3.val p.rooms.length)), ((0, 4), .v (p.h4.val p.threads.length)), ((1, 0), .v (s.h0.val s.places.length)), ((1, 1), .v (s.h1.val s.status.length)), ((1, 2), .v (s.h2.val s.sems.length)), ((1, 3), .v (s.h3.val s.onces.length)), ((1, 4), .v (s.h4.val s.groups.length)), ((1, 5), .v (s.h5.val s.barriers.length)), ((1, 6), .v (s.h6.val s.chans.length)), ((1, 7), .v (s.h7.val s.said.length)), ((1, 8), .v (.int .i64 s.fault))] [] [] z99 z103 trivial rfl ?_
   refine BothW.mk ?_ ?_
   all_goals
     refine d_call _ cl96 rfl rfl rfl rfl ⟨rfl, rfl⟩ (fun A w hW => l7Copy_c s w ⟨hW.get 2 rfl (.refl _), trivial⟩ hs) ?_
     rintro v L ⟨y, rfl, hy, rfl⟩
   refine BothW.mk ?_ ?_
   all_goals
     conv => whnf
     refine d_shift (Shift.splitO 0 (L := outerO y) (G := stateO y) (G' := innerO y) rfl (stateO_perm y)) z93 ?_
     refine d_callG _ [0, 1, 2, 3, 4, 5, 6, 7, 8] (G := [_, _, _, _, _, _, _, _, _]) cl95 rfl rfl rfl rfl ⟨rfl, rfl⟩ z123 z109 z93 (fun A w hW => (l7Do_c p y k (by rw [hy]; exact ft) (by rw [hy]; exact hm) w (hW.atG [0, 1, 2, 3, 4, 5, 6, 7, 8] (G := [_, _, _, _, _, _, _, _, _]) z123 rfl z109 [10] (Fo := [_]) z137 rfl))) ?_
     rintro v L ⟨y2, rfl, hy2, rfl⟩
     rw [hy] at hy2
     refine ⟨⟨y2, hy2⟩, ?_⟩
     exact weak_mk [0, 2] zw2 zw0 zw2 zw5 zw4 rfl rfl
 rintro ⟨y2, hy2⟩
 simp only
 apply CaseB.mk <;> intro g
 · have hl : ¬ (doM p.pure s.pure k).said.length ≤ 64 := by
     have g' := of_decide_eq_true g
     rw [← hy2]
     show ¬ y2.said.length ≤ 64
     omega
   have n : ¬ StepOk p.pure s.pure k := fun e => hl e.2.2.1
   refine ret_shift (.joinO [90] (Gs := [_]) ⟨.inr ⟨Nat.le_of_ble_eq_true rfl, zero_nil⟩, trivial⟩ rfl (G := stateO StateH.zero) (.of_eq (by simp))) ?_
   refine ret_shift (Shift.pack (G := stateO StateH.zero) (fun g hg => inON 0 rfl hg)) ?_
   exact retw [0] ⟨StateH.zero, false, rfl, tno n, fun e => z98, fun _ => rfl, rfl⟩ z133 rfl ⟨rfl, trivial⟩ (fun _ => rfl)
 have hl : (doM p.pure s.pure k).said.length ≤ 64 := by
   have g' := of_decide_eq_false g
   rw [← hy2]
   show y2.said.length ≤ 64
   omega
 refine stop_call _ cl19 rfl rfl rfl rfl ⟨rfl, rfl⟩ (fun A w hW => stateFitsS_c p y2 w ⟨hW.get 1 rfl (.refl _), hW.get 0 rfl (fN_fR _), trivial⟩ hp (by rw [hy2]; exact doM_small ft hm hl)) ?_
 rintro v L ⟨b, rfl, hbb, rfl⟩
 rw [hy2] at hbb
 apply CaseB.mk <;> intro g
 · have n : ¬ StepOk p.pure s.pure k := fun e => by rw [hbb.2 e.2.2.2] at g; cases g
   refine ret_shift (.joinO [90] (Gs := [_]) ⟨.inr ⟨Nat.le_of_ble_eq_true rfl, zero_nil⟩, trivial⟩ rfl (G := stateO StateH.zero) (.of_eq (by simp))) ?_
   refine ret_shift (Shift.pack (G := stateO StateH.zero) (fun g hg => inON 0 rfl hg)) ?_
   exact retw [0] ⟨StateH.zero, false, rfl, tno n, fun e => z98, fun _ => rfl, rfl⟩ z133 rfl ⟨rfl, trivial⟩ (fun _ => rfl)
 have hok : StepOk p.pure s.pure k := ⟨ft, hm, hl, hbb.1 z91⟩
 exact retw [0] ⟨y2, true, rfl, tyes hok, fun _ => hy2, fun e => z98, rfl⟩ z133 rfl ⟨rfl, trivial⟩ (fun _ => rfl)
theorem Shift.packK {Zs G : List Fct} (k : Nat) (hk : Zs[k]? = some (fO G)) : Shift Zs (fN G :: Zs.eraseIdx k) := by
 intro E A n B M w h
 have hsub := h.sub (eraseIdx_sub Zs k)
 have hdj := pairwise_nth_erase h.dj hk
 have hfk := h.fct _ (List.mem_of_getElem? hk)
 have key : ∀ g ∈ G, Rd (fO G) (Fct.fresh g) := fun g hg => fresh_rd (.ofO ⟨g, hg, .refl _⟩)
 have hP : ∀ g' ∈ G.map Fct.fresh, g'.P w := fun g' hg' => by
   obtain ⟨g, hg, rfl⟩ := List.mem_map.1 hg'
   exact (key g hg).p w hfk.1
 have hfoot : ∀ b, (fN G).foot b → (fO G).foot b := by
   rintro b ⟨g', hg', hb⟩
   obtain ⟨g, hg, rfl⟩ := List.mem_map.1 hg'
   exact (key g hg).foot b hb
 refine ⟨h.key, h.inj, h.mem, h.a0, h.n0, h.ext, fun f hf => ?_, ?_⟩
 · rcases List.mem_cons.1 hf with rfl | hf
   · exact ⟨hP, fun b hb => hfk.2.1 b (hfoot b hb), fun _ b hb => hfk.2.2 rfl b (hfoot b hb)⟩
   · exact hsub.fct f hf
 · rw [List.pairwise_cons]
   exact ⟨fun f hf ho b hb hb' => hdj f hf (.inl rfl) b (hfoot b hb) hb', hsub.dj⟩
inductive Reach (p : Prog) : Nat → State → Prop where
 | begin : Reach p 0 (start p)
 | step {n : Nat} {s : State} {t : Int} : Reach p n s → StepOk p s t → Reach p (n + 1) (doM p s t)
theorem Reach.small {p : Prog} (ok : ProgOk p) {n : Nat} {s : State} (h : Reach p n s) : s.small20 := by
 cases h with
 | begin => exact start_small ok
 | step _ h => exact h.2.2.2.small
theorem ProgOk.small20 {p : Prog} (ok : ProgOk p) : p.small20 := by
 have h0 := ok.sems.1
 have h1 := ok.groups.1
 have h2 := ok.barriers.1
 have h3 := ok.rooms.1
 have h4 := ok.n4
 exact ⟨by omega, by omega, by omega, by omega, by omega, fun x hx => Nat.le_trans (ok.ops x hx).1 (by decide)⟩
theorem readyL_le (s : State) : (readyM s).length ≤ s.status.length := by
 rw [readyM]
 split
 · exact readyL_len _
 · exact Nat.zero_le _
set_option maxHeartbeats 16000000 in
set_option maxRecDepth 100000 in
theorem walk7_c (g : Nat) (bi : Sl) (rb : List UInt8) (p0 : Nat) (q : ProgH) (m : Nat) (w : World) (hg : Blk w g 139 (rdrV bi rb p0)) (h : AtP w g [slo bi cByte 1 rb, fR (progO q)]) (hb : rb.length ≤ 2000) (hp : p0 < 1000000) (ok : ProgOk q.pure) (hm : m ≤ 1000) :
   Calls Tryz.prog 42 #[.pointer (some ⟨g, 0, none⟩), progV q, .int .i64 (m : Int)] w (RetP w g 139 2 fun v cs L => ∃ (y : StateH) (n p2 : Nat), v = stateV y ∧ Reach q.pure n y.pure ∧ n ≤ m ∧ cs = rdrV bi rb p2 ∧ p2 ≤ p0 + m ∧ L = [fN (stateO y)]) := by
 have hq : q.pure.small20 := ok.small20
 refine callsP3 Tryz.func42 rfl tabOk w _ rfl _ rfl _ 139 _ 2 rfl hg _ h ⟨rfl, rfl, rfl, rfl, trivial⟩ _ _ (by decide) ?_
 refine stop_call _ cl98 rfl rfl rfl rfl ⟨rfl, rfl⟩ (fun A w hW => startProgS_c q w ⟨hW.get 1 rfl (.refl _), trivial⟩ (prog_small hq)) ?_
 rintro v L ⟨y0, b0, rfl, i1, i2, i3, rfl⟩
 have hst := i2 (i1.2 ok)
 refine LoopW.mk ⟨{ u : Nat × StateH × Nat // u.1 ≤ m ∧ Reach q.pure u.1 u.2.1.pure ∧ u.2.2 ≤ p0 + u.1 },
   fun u => .mk [(0, .p 0 0), (2, .v (.int .i64 (m : Int))), (4, .p 1 0), (6, .p 2 0), (7, .p 3 0), (9, .v (.int .i64 (u.1.1 : Int)))] 4 0 [(3, 30, 9), (2, 30, 9), (1, 37, 5), (0, 139, 2)] [((0, 0), .v (bi.val rb.length)), ((0, 1), .v (.int .i64 (u.1.2.2 : Int))), ((1, 0), .v (q.h0.val q.sems.length)), ((1, 1), .v (q.h1.val q.groups.length)), ((1, 2), .v (q.h2.val q.barriers.length)), ((1, 3), .v (q.h3.val q.rooms.length)), ((1, 4), .v (q.h4.val q.threads.length)), ((3, 0), .v (u.1.2.1.h0.val u.1.2.1.places.length)), ((3, 1), .v (u.1.2.1.h1.val u.1.2.1.status.length)), ((3, 2), .v (u.1.2.1.h2.val u.1.2.1.sems.length)), ((3, 3), .v (u.1.2.1.h3.val u.1.2.1.onces.length)), ((3, 4), .v (u.1.2.1.h4.val u.1.2.1.groups.length)), ((3, 5), .v (u.1.2.1.h5.val u.1.2.1.barriers.length)), ((3, 6), .v (u.1.2.1.h6.val u.1.2.1.chans.length)), ((3, 7), .v (u.1.2.1.h7.val u.1.2.1.said.length)), ((3, 8), .v (.int .i64 u.1.2.1.fault))] [fN (stateO u.1.2.1), slo bi cByte 1 rb, fR (progO q)],
   fun u => m - u.1.1, ⟨(0, y0, p0), Nat.zero_le _, by rw [hst]; exact .begin, Nat.le_refl _⟩, ?_, ?_⟩
 · refine weak_shift (Shift.packK (G := stateO y0) 0 rfl) ?_
   exact weak_mk [0, 1, 2] zw2 zw0 zw2 zw5 zw4 rfl rfl
 rintro ⟨⟨k, yS, p1⟩, j1, j2, j3⟩
 simp only at j1 j2 j3 ⊢
 have hys := Reach.small ok j2
 have hsb : yS.status.length ≤ 1048576 := hys.2.1
 have hrl := readyL_le yS.pure
 have hsb2 : yS.pure.status.length ≤ 1048576 := hys.2.1
 refine CaseB.mk (fun gk => ?_) (fun gk => ?_)
 · have hkm : k < m := by have := of_decide_eq_true gk; omega
   have hw := e_succ k _ hkm (by omega)
   refine stop_call _ cl75 rfl rfl rfl rfl ⟨rfl, rfl⟩ (fun A w hW => readyS_c yS w ⟨hW.get 0 rfl (fN_fR _), trivial⟩ hsb) ?_
   rintro v L ⟨yr, rfl, rfl⟩
   refine CaseB.mk (fun g1 => ?_) (fun g1 => ?_)
   · exact retP [1] ⟨yS, k, p1, rfl, j2, by omega, rfl, by omega, rfl⟩ rfl rfl z133 rfl ⟨rfl, trivial⟩ (fun _ => rfl)
   have hr0 : 0 < (readyM yS.pure).length := by
     rcases Nat.eq_zero_or_pos (readyM yS.pure).length with h | h
     · rw [h] at g1; simp at g1
     · exact h
   refine draw_cut { u : StateH × Bool × Nat // u.2.2 ≤ p1 + 1 ∧ (u.2.1 = true → Reach q.pure (k + 1) u.1.pure) } (fun u => .mk [(0, .p 0 0), (2, .v (.int .i64 (m : Int))), (4, .p 1 0), (6, .p 2 0), (7, .p 3 0), (9, .v (.int .i64 (k : Int))), (11, .p 4 0), (12, .v (.bool u.1.2.1))] 5 0 [(4, 30, 9), (3, 30, 9), (2, 30, 9), (1, 37, 5), (0, 139, 2)] [((0, 0), .v (bi.val rb.length)), ((0, 1), .v (.int .i64 (u.1.2.2 : Int))), ((1, 0), .v (q.h0.val q.sems.length)), ((1, 1), .v (q.h1.val q.groups.length)), ((1, 2), .v (q.h2.val q.barriers.length)), ((1, 3), .v (q.h3.val q.rooms.length)), ((1, 4), .v (q.h4.val q.threads.length)), ((3, 0), .v (yS.h0.val yS.places.length)), ((3, 1), .v (yS.h1.val yS.status.length)), ((3, 2), .v (yS.h2.val yS.sems.length)), ((3, 3), .v (yS.h3.val yS.onces.length)), ((3, 4), .v (yS.h4.val yS.groups.length)), ((3, 5), .v (yS.h5.val yS.barriers.length)), ((3, 6), .v (yS.h6.val yS.chans.length)), ((3, 7), .v (yS.h7.val yS.said.length)), ((3, 8), .v (.int .i64 yS.fault)), ((4, 0), .v (u.1.1.h0.val u.1.1.places.length)), ((4, 1), .v (u.1.1.h1.val u.1.1.status.length)), ((4, 2), .v (u.1.1.h2.val u.1.1.sems.length)), ((4, 3), .v (u.1.1.h3.val u.1.1.onces.length)), ((4, 4), .v (u.1.1.h4.val u.1.1.groups.length)), ((4, 5), .v (u.1.1.h5.val u.1.1.barriers.length)), ((4, 6), .v (u.1.1.h6.val u.1.1.chans.length)), ((4, 7), .v (u.1.1.h7.val u.1.1.said.length)), ((4, 8), .v (.int .i64 u.1.1.fault))] [fN (stateO u.1.1), fN (stateO yS), slo bi cByte 1 rb, fR (progO q)]) ?_ ?_
   · refine draw_start tabOk z95 z95 z95 200 [((1, 0), .v (q.h0.val q.sems.length)), ((1, 1), .v (q.h1.val q.groups.length)), ((1, 2), .v (q.h2.val q.barriers.length)), ((1, 3), .v (q.h3.val q.rooms.length)), ((1, 4), .v (q.h4.val q.threads.length)), ((3, 0), .v (yS.h0.val yS.places.length)), ((3, 1), .v (yS.h1.val yS.status.length)), ((3, 2), .v (yS.h2.val yS.sems.length)), ((3, 3), .v (yS.h3.val yS.onces.length)), ((3, 4), .v (yS.h4.val yS.groups.length)), ((3, 5), .v (yS.h5.val yS.barriers.length)), ((3, 6), .v (yS.h6.val yS.chans.length)), ((3, 7), .v (yS.h7.val yS.said.length)), ((3, 8), .v (.int .i64 yS.fault))] [0] [_] z99 z103 ⟨rfl, trivial⟩ rfl ?_
     refine BothW.mk ?_ ?_
     all_goals
       refine d_callP _ cl41 rfl rfl rfl rfl ⟨rfl, rfl⟩ rfl rfl rfl (fun A w ga hga hW hblk => (pick_c ga bi rb _ _ w hblk ⟨z28, trivial⟩ hb (by omega))) ?_
       rintro v cs L ⟨kk, rfl, hkk, _, rfl, rfl⟩
       have hlt : kk < (readyM yS.pure).length := by have := hkk (by omega); omega
       obtain ⟨t, ht⟩ : ∃ t, t = (readyM yS.pure)[kk] := ⟨_, rfl⟩
       refine d_idx (ti := tiOf tab) encInt tabOk rfl rfl rfl rfl rfl ⟨rfl, rfl⟩ z30 kk rfl z38 (fun ad => ?_)
       rw [← ht]
       first
       | refine BothW.mk ?_ ?_
       | skip
       all_goals
         refine d_call _ cl37 rfl rfl rfl rfl ⟨rfl, rfl⟩ (fun A w hW => stepThreadS_c q yS t w ⟨hW.get 3 rfl (.refl _), hW.get 1 rfl (fN_fR _), trivial⟩ hq hys) ?_
         rintro v L ⟨y3, b2, rfl, s1, s2, s3, rfl⟩
         refine ⟨⟨(y3, b2, p1 + 1), Nat.le_refl _, fun h => by show Reach q.pure (k + 1) y3.pure; rw [s2 h]; exact .step j2 (s1.1 h)⟩, ?_⟩
         exact weak_mk [0, 2, 3, 4] zw2 zw0 zw2 zw5 zw4 rfl rfl
   rintro ⟨⟨y3, b2, p2⟩, s1, s2⟩
   simp only at s1 s2 ⊢
   refine CaseB.mk (fun g2 => ?_) (fun g2 => ?_)
   · exact retP [1] ⟨yS, k, p2, rfl, j2, by omega, rfl, by omega, rfl⟩ rfl rfl z133 rfl ⟨rfl, trivial⟩ (fun _ => rfl)
   have e2 : b2 = true := by simpa using g2
   refine ⟨⟨(k + 1, y3, p2), hkm, s2 e2, by simp only; omega⟩, ?_, by simp only; omega⟩
   exact weak_mk [0, 2, 3] zw1 zw0 zw1 zw5 zw3 rfl rfl
 have hk : k = m := by have := of_decide_eq_false gk; omega
 exact retP [0] ⟨yS, k, p1, rfl, j2, by omega, rfl, by omega, rfl⟩ rfl rfl z133 rfl ⟨rfl, trivial⟩ (fun _ => rfl)
structure Keep (op : Op) (s s1 : State) : Prop where
 pl : s1.places = s.places
 st : s1.status = s.status
 fa : s1.fault = s.fault
 se : s1.sems = s.sems ∨ (op.kind = 2 ∨ op.kind = 3) ∧ ∃ x, s1.sems = s.sems.set op.on.toNat x
 ba : s1.barriers = s.barriers ∨ ∃ x, s1.barriers = s.barriers.set op.on.toNat x ∧ x.round ≤ (barrierAt s op).round + 1
def SaidR (op : Op) (s s1 : State) : Prop := (s1.said = s.said ∧ op.kind ≠ 1) ∨ ∃ v, s1.said = s.said ++ [v] ∧ ((op.kind = 1 ∨ op.kind = 8) ∧ v = op.arg ∨ op.kind = 9)
inductive Stp (p : Prog) (s : State) (k : Nat) (st : Int) (op : Op) : State → Prop where
 | on (s1 : State) (who : List Int) : Keep op s s1 → SaidR op s s1 → who.Nodup → (∀ u ∈ who, ofKey (events s) u ≠ []) → Stp p s k st op (onM p (who ++ [(k : Int)]) s1)
 | wait (s1 : State) (b : Int) : Keep op s s1 → s1.said = s.said → op.kind ≠ 1 → (b = 1 ∨ b = 2 ∧ st = 0) → Stp p s k st op (waitM s1 k b)
 | fault (f : Int) : f ≠ 0 → op.kind ≠ 1 → Stp p s k st op (faultM s f)
theorem onceOk_nd {m : Once} (h : OnceOk m) : m.waits.Nodup := by
 rcases h with h | h | h
 · rw [h.2.2.2]; exact List.nodup_nil
 · exact distinct_nd h.2.2.2.1
 · rw [h.2.2.2]; exact List.nodup_nil
theorem Rdy.stp {p : Prog} {s : State} {k : Nat} {ops : List Op} {a st : Int} {op : Op} (r : Rdy p s k ops a st op) (hw : ¬ Worn p s k) : Stp p s k st op (doM p s k) := by
 have hst : s.status.getD (k : Int).toNat 0 = st := by rw [Int.toNat_natCast, List.getD_eq_getElem?_getD, r.h3]; rfl
 rw [Worn, r.at_] at hw
 rw [doM, r.at_, doOp]
 by_cases k1 : op.kind = 1
 · rw [if_pos k1]
   exact .on (sayM s op.arg) [] z132 (.inr ⟨_, rfl, .inl ⟨.inl k1, rfl⟩⟩) List.nodup_nil (fun u hu => by cases hu)
 by_cases k2 : op.kind = 2
 · rw [if_neg k1, if_pos k2, doAcquire]
   split
   · exact .on (setSem s op _) [] ⟨rfl, rfl, rfl, .inr ⟨.inl k2, _, rfl⟩, .inl rfl⟩ (.inl ⟨rfl, k1⟩) List.nodup_nil (fun u hu => by cases hu)
   · exact .wait (setSem s op _) 1 ⟨rfl, rfl, rfl, .inr ⟨.inl k2, _, rfl⟩, .inl rfl⟩ rfl k1 (.inl rfl)
 by_cases k3 : op.kind = 3
 · rw [if_neg k1, if_neg k2, if_pos k3, doRelease]
   obtain ⟨x, hx, hxa, ok, a1, a2, hi⟩ := r.sem (.inr k3)
   rw [hxa, Sem.release]
   by_cases hc : op.arg ≤ x.limit - x.free
   · rw [if_pos hc]
     have f0 := ok.f0
     obtain ⟨n, i1, i2, i3, i4, i5⟩ := handL_ok x.queue (x.free + op.arg) (by omega) (fun w hw => (ok.cnt w hw).1)
     simp only [i1, i2]
     exact Stp.on (p := p) (s := s) (k := k) (st := st) (op := op) (setSem s op ⟨(handL (x.free + op.arg) x.queue).1, x.limit, x.queue.drop n⟩) ((x.queue.take n).map (·.t)) ⟨rfl, rfl, rfl, .inr ⟨.inr k3, _, rfl⟩, .inl rfl⟩ (.inl ⟨rfl, k1⟩) ((distinct_nd ok.dis).sublist ((List.take_sublist _ _).map _)) (fun u hu h0 => ofKey_map_nil.1 ((swap_sems hx x).none h0) (((List.take_sublist _ _).map _).subset hu))
   · rw [if_neg hc]
     exact .fault 1 (by decide) k1
 by_cases k4 : op.kind = 4
 · rw [if_neg k1, if_neg k2, if_neg k3, if_pos k4, doOnce, hst]
   obtain ⟨x, hx, hxa, ok, hv, hi⟩ := r.once k4
   rw [hxa]
   by_cases h2 : st = 2
   · rw [if_pos h2]
     exact .on (setOnce s op (x.finish k op.arg).1) x.waits z132 (.inl ⟨rfl, k1⟩) (onceOk_nd ok) (fun u hu h0 => (ofKey_map_nil (g := fun t : Int => t)).1 ((swap_onces hx x).none h0) (by simpa using hu))
   have h0 : st = 0 := by
     rcases r.ow with ⟨e, _⟩ | ⟨e, _⟩
     · exact e
     · exact (h2 e).elim
   rw [if_neg h2]
   split
   · exact .wait (setOnce s op _) 2 z132 rfl k1 (.inr ⟨rfl, h0⟩)
   split
   · exact .wait (setOnce s op _) 1 z132 rfl k1 (.inl rfl)
   · exact .on (setOnce s op _) [] z132 (.inl ⟨rfl, k1⟩) List.nodup_nil (fun u hu => by cases hu)
 by_cases k5 : op.kind = 5
 · rw [if_neg k1, if_neg k2, if_neg k3, if_neg k4, if_pos k5, doAdd]
   obtain ⟨x, hx, hxa, ⟨ok1, ok2, ok3⟩, ha, hi⟩ := r.group (.inl k5)
   rw [hxa, Group.add]
   by_cases hc : isValue (x.count + op.arg) = true
   · rw [if_pos hc]
     by_cases h0 : x.count + op.arg = 0
     · rw [if_pos h0]
       exact .on (setGroup s op ⟨0, []⟩) x.waits z132 (.inl ⟨rfl, k1⟩) (distinct_nd ok2) (fun u hu h0 => (ofKey_map_nil (g := fun t : Int => t)).1 ((swap_groups hx x).none h0) (by simpa using hu))
     · rw [if_neg h0]
       exact .on (setGroup s op ⟨x.count + op.arg, x.waits⟩) [] z132 (.inl ⟨rfl, k1⟩) List.nodup_nil (fun u hu => by cases hu)
   · rw [if_neg hc]
     exact .fault 2 (by decide) k1
 by_cases k6 : op.kind = 6
 · rw [if_neg k1, if_neg k2, if_neg k3, if_neg k4, if_neg k5, if_pos k6, doWait]
   split
   · exact .on (setGroup s op _) [] z132 (.inl ⟨rfl, k1⟩) List.nodup_nil (fun u hu => by cases hu)
   · exact .wait (setGroup s op _) 1 z132 rfl k1 (.inl rfl)
 by_cases k7 : op.kind = 7
 · rw [if_neg k1, if_neg k2, if_neg k3, if_neg k4, if_neg k5, if_neg k6, if_pos k7, doArrive]
   obtain ⟨x, hx, hxa, ok, hi⟩ := r.barrier k7
   rw [hxa, Barrier.arrive] at hw ⊢
   by_cases hc : (x.waits.length : Int) + 1 < x.parties
   · rw [if_pos hc]
     exact .wait (setBarrier s op ⟨x.parties, x.round, x.waits ++ [(k : Int)]⟩) 1 ⟨rfl, rfl, rfl, .inl rfl, .inr ⟨_, rfl, by rw [hxa]; show x.round ≤ x.round + 1; omega⟩⟩ rfl k1 (.inl rfl)
   rw [if_neg hc] at hw ⊢
   by_cases h9 : x.round = 9999
   · exact (hw ⟨k7, if_pos h9⟩).elim
   rw [if_neg h9]
   have hne : ¬ x.waits ++ [(k : Int)] = [] := by simp
   simp only [if_neg hne]
   exact .on (setBarrier s op ⟨x.parties, x.round + 1, []⟩) x.waits ⟨rfl, rfl, rfl, .inl rfl, .inr ⟨_, rfl, by rw [hxa]; exact Int.le_refl _⟩⟩ (.inl ⟨rfl, k1⟩) (distinct_nd ok.2.2.2.2.2) (fun u hu h0 => (ofKey_map_nil (g := fun t : Int => t)).1 ((swap_barriers hx x).none h0) (by simpa using hu))
 by_cases k8 : op.kind = 8
 · rw [if_neg k1, if_neg k2, if_neg k3, if_neg k4, if_neg k5, if_neg k6, if_neg k7, if_pos k8, doSend]
   obtain ⟨x, hx, hxa, hv, hval, hi⟩ := r.chan (by omega)
   rw [hxa]
   by_cases hc : (x.send k op.arg).2.2.2 = true
   · obtain ⟨_, c1, c2, c3, c4⟩ := send_ok hc
     rw [if_pos hc]
     have hsd : x.send k op.arg = if h : 0 < x.getters.length then ({ x with getters := x.getters.drop 1 }, [x.getters[0]], true, true) else if (x.items.length : Int) < x.room then ({ x with items := x.items ++ [op.arg] }, [], true, true) else ({ x with senders := x.senders ++ [⟨(k : Int), op.arg⟩] }, [], false, true) := by
       rw [Chan.send, if_pos ⟨hv, c1, c2, c3, c4⟩]
     rw [hsd]
     by_cases hg : 0 < x.getters.length
     · simp only [dif_pos hg, if_true]
       rw [if_neg (by simp)]
       exact .on (sayM (setChan s op { x with getters := x.getters.drop 1 }) op.arg) [x.getters[0]] z132 (.inr ⟨_, rfl, .inl ⟨.inr k8, rfl⟩⟩) (by simp) (fun u hu h0 => chan_out ((swap_chans hx x).none h0) (List.mem_append_right _ (by rw [List.mem_singleton.1 hu]; exact List.getElem_mem hg)))
     · simp only [dif_neg hg]
       by_cases hr : (x.items.length : Int) < x.room
       · simp only [if_pos hr, if_true]
         exact .on (setChan s op { x with items := x.items ++ [op.arg] }) [] z132 (.inl ⟨rfl, k1⟩) List.nodup_nil (fun u hu => by cases hu)
       · simp only [if_neg hr, Bool.false_eq_true, if_false]
         exact .wait (setChan s op _) 1 z132 rfl k1 (.inl rfl)
   · rw [if_neg hc]
     exact .fault 3 (by decide) k1
 by_cases k9 : op.kind = 9
 · rw [if_neg k1, if_neg k2, if_neg k3, if_neg k4, if_neg k5, if_neg k6, if_neg k7, if_neg k8, if_pos k9, doGet]
   obtain ⟨x, hx, hxa, hv, hval, hi⟩ := r.chan (by omega)
   rw [hxa]
   have hok : x.Valid ∧ isThread (k : Int) = true ∧ ¬ (k : Int) ∈ x.threads := ⟨hv, r.thr, chan_out ((swap_chans hx x).none r.ev)⟩
   have hsd : x.get k = if 0 < x.gItems.length then ({ x with items := x.gItems.drop 1, senders := x.senders.drop 1 }, x.gItems.headD 0, 1, x.gWho, true) else if x.closed = true then ({ x with items := [], senders := [] }, 0, 2, [], true) else ({ x with items := [], senders := [], getters := x.getters ++ [(k : Int)] }, 0, 0, [], true) := by
     rw [Chan.get, if_pos hok]
   rw [hsd]
   by_cases hc : 0 < x.gItems.length
   · simp only [if_pos hc]
     rw [if_neg (by decide), if_pos trivial]
     exact .on (sayM (setChan s op { x with items := x.gItems.drop 1, senders := x.senders.drop 1 }) (x.gItems.headD 0)) x.gWho z132 (.inr ⟨_, rfl, .inr k9⟩) ((chan_nd hv).1.sublist ((List.take_sublist _ _).map _)) (fun u hu h0 => chan_out ((swap_chans hx x).none h0) (List.mem_append_left _ (((List.take_sublist _ _).map _).subset hu)))
   · simp only [if_neg hc]
     by_cases hcl : x.closed = true
     · simp only [if_pos hcl]
       rw [if_neg (by decide), if_neg (by decide)]
       exact .on (setChan s op { x with items := [], senders := [] }) [] z132 (.inl ⟨rfl, k1⟩) List.nodup_nil (fun u hu => by cases hu)
     · simp only [if_neg hcl]
       rw [if_pos trivial]
       exact .wait (setChan s op _) 1 z132 rfl k1 (.inl rfl)
 rw [if_neg k1, if_neg k2, if_neg k3, if_neg k4, if_neg k5, if_neg k6, if_neg k7, if_neg k8, if_neg k9, doClose]
 have h10 := r.ok.2.1
 have h11 := r.ok.1
 obtain ⟨x, hx, hxa, hv, hval, hi⟩ := r.chan (by omega)
 rw [hxa]
 by_cases hc : x.close.2.2 = true
 · obtain ⟨_, c1, c2⟩ := close_ok hc
   rw [if_pos hc]
   have hsd : x.close = ({ x with senders := [], getters := [], closed := true }, x.getters, true) := by
     rw [Chan.close, if_pos ⟨hv, c1, c2⟩]
   rw [hsd]
   exact .on (setChan s op { x with senders := [], getters := [], closed := true }) x.getters z132 (.inl ⟨rfl, k1⟩) (chan_nd hv).2 (fun u hu h0 => chan_out ((swap_chans hx x).none h0) (List.mem_append_right _ hu))
 · rw [if_neg hc]
   exact .fault 4 (by decide) k1
theorem Rdy.who {p : Prog} {s : State} {k : Nat} {ops : List Op} {a st : Int} {op : Op} (r : Rdy p s k ops a st op) {who : List Int} (nd : who.Nodup) (hw : ∀ u ∈ who, ofKey (events s) u ≠ []) : (who ++ [(k : Int)]).Nodup ∧ ∀ x ∈ who ++ [(k : Int)], 0 ≤ x := by
 refine ⟨?_, fun x hx => ?_⟩
 · rw [List.nodup_append]
   exact ⟨nd, by simp, fun x hx y hy => by simp at hy; subst hy; rintro rfl; exact hw _ hx r.ev⟩
 · rcases List.mem_append.1 hx with hx | hx
   · exact (r.ft.isIn (hw x hx)).1
   · simp at hx; omega
theorem Rdy.self {p : Prog} {s : State} {k : Nat} {ops : List Op} {a st : Int} {op : Op} (r : Rdy p s k ops a st op) {s' : State} (h : Stp p s k st op s') :
   (s'.fault ≠ 0 ∧ { s' with fault := 0 } = s ∧ s'.status[k]? = some st ∧ op.kind ≠ 1) ∨ (s'.fault = 0 ∧ s'.places[k]? = some (a + 1) ∧ (s'.status[k]? = some 0 ∨ s'.status[k]? = some 3)) ∨
   (s'.fault = 0 ∧ s'.places = s.places ∧ s'.said = s.said ∧ op.kind ≠ 1 ∧ (s'.status[k]? = some 1 ∨ s'.status[k]? = some 2 ∧ st = 0)) := by
 have hk : k < s.status.length := (List.getElem?_eq_some_iff.1 r.h3).1
 cases h with
 | on s1 who hK hs nd hw =>
   obtain ⟨nd2, h0⟩ := r.who nd hw
   have P := onM_places p _ s1 nd2 h0 k
   have S := onM_status p _ s1 nd2 h0 k
   obtain ⟨pl, st', hE, _, _⟩ := onM_rest p (who ++ [(k : Int)]) s1
   rw [if_pos (by simp), hK.pl, r.h2] at P
   rw [if_pos (by simp), hK.st, r.h3] at S
   refine .inr (.inl ⟨by rw [hE]; show s1.fault = 0; rw [hK.fa]; exact r.f, P, ?_⟩)
   rw [S]
   simp only [Option.map_some, restM]
   split
   · exact .inr rfl
   · exact .inl rfl
 | wait s1 b hK hs h1 hb =>
   refine .inr (.inr ⟨by show s1.fault = 0; rw [hK.fa]; exact r.f, hK.pl, hs, h1, ?_⟩)
   have e : (waitM s1 k b).status[k]? = some b := by simp [waitM, hK.st, hk]
   rw [e]
   rcases hb with rfl | ⟨rfl, h⟩
   · exact .inl rfl
   · exact .inr ⟨rfl, h⟩
 | fault f hf h1 =>
   refine .inl ⟨hf, ?_, r.h3, h1⟩
   have := r.f
   cases s
   simp only [faultM] at this ⊢
   subst this
   rfl
theorem Rdy.others {p : Prog} {s : State} {k : Nat} {ops : List Op} {a st : Int} {op : Op} (r : Rdy p s k ops a st op) {s' : State} (h : Stp p s k st op s') (u : Nat) (hu : u < p.threads.length) (hn : u ≠ k) :
   (s'.places[u]? = s.places[u]? ∧ s'.status[u]? = s.status[u]?) ∨ (s.status[u]? = some 1 ∧ s'.places[u]? = s.places[u]?.map (· + 1) ∧ (s'.status[u]? = some 0 ∨ s'.status[u]? = some 3)) := by
 have hup : u < s.places.length := by rw [r.ft.np]; exact hu
 have hus : u < s.status.length := by rw [r.ft.ns]; exact hu
 have g1 : p.threads[u]? = some p.threads[u] := List.getElem?_eq_getElem hu
 have g2 : s.places[u]? = some s.places[u] := List.getElem?_eq_getElem hup
 have g3 : s.status[u]? = some s.status[u] := List.getElem?_eq_getElem hus
 have hn' : ¬ (u : Int) = k := by omega
 cases h with
 | on s1 who hK hs nd hw =>
   obtain ⟨nd2, h0⟩ := r.who nd hw
   have P := onM_places p _ s1 nd2 h0 u
   have S := onM_status p _ s1 nd2 h0 u
   rw [hK.pl] at P
   rw [hK.st] at S
   by_cases hm : (u : Int) ∈ who
   · rw [if_pos (List.mem_append_left _ hm)] at P S
     refine .inr ⟨?_, P, ?_⟩
     · rw [g3, (r.ft.waiting g1 g2 g3 (hw _ hm)).2.2]
     · rw [S, g3]
       simp only [Option.map_some, restM]
       split
       · exact .inr rfl
       · exact .inl rfl
   · have hm2 : ¬ (u : Int) ∈ who ++ [(k : Int)] := by simp [hm, hn']
     rw [if_neg hm2] at P S
     exact .inl ⟨P, S⟩
 | wait s1 b hK hs h1 hb =>
   refine .inl ⟨by show s1.places[u]? = _; rw [hK.pl], ?_⟩
   have e : ¬ k = u := fun e => hn e.symm
   simp [waitM, hK.st, e]
 | fault f hf h1 => exact .inl ⟨rfl, rfl⟩
theorem Stp.said {p : Prog} {s : State} {k : Nat} {st : Int} {op : Op} {s' : State} (h : Stp p s k st op s') : SaidR op s s' := by
 cases h with
 | on s1 who hK hs nd hw =>
   rw [SaidR, onM_said]
   exact hs
 | wait s1 b hK hs h1 hb => exact .inl ⟨hs, h1⟩
 | fault f hf h1 => exact .inl ⟨rfl, h1⟩
theorem Stp.sems {p : Prog} {s : State} {k : Nat} {st : Int} {op : Op} {s' : State} (h : Stp p s k st op s') : s'.sems = s.sems ∨ (op.kind = 2 ∨ op.kind = 3) ∧ ∃ x, s'.sems = s.sems.set op.on.toNat x := by
 cases h with
 | on s1 who hK hs nd hw =>
   obtain ⟨pl, st', hE, _, _⟩ := onM_rest p (who ++ [(k : Int)]) s1
   rw [hE]
   exact hK.se
 | wait s1 b hK hs h1 hb => exact hK.se
 | fault f hf h1 => exact .inl rfl
theorem Stp.bars {p : Prog} {s : State} {k : Nat} {st : Int} {op : Op} {s' : State} (h : Stp p s k st op s') : s'.barriers = s.barriers ∨ ∃ x, s'.barriers = s.barriers.set op.on.toNat x ∧ x.round ≤ (barrierAt s op).round + 1 := by
 cases h with
 | on s1 who hK hs nd hw =>
   obtain ⟨pl, st', hE, _, _⟩ := onM_rest p (who ++ [(k : Int)]) s1
   rw [hE]
   exact hK.ba
 | wait s1 b hK hs h1 hb => exact hK.ba
 | fault f hf h1 => exact .inl rfl
theorem StepOk.rdy {p : Prog} {s : State} {t : Int} (h : StepOk p s t) : ∃ (k : Nat) (ops : List Op) (a st : Int) (op : Op), t = k ∧ Rdy p s k ops a st op ∧ Stp p s k st op (doM p s t) := by
 obtain ⟨h1, h2, h3, h4⟩ := stepOk_iff.1 h
 obtain ⟨k, ops, a, st, op, rfl, r⟩ := Go.Proofs.YtjkkoonennpceaaGreat.rdy h1 h2
 exact ⟨k, ops, a, st, op, rfl, r, r.stp h4⟩
def Rounds (s : State) (B : Int) : Prop := ∀ x ∈ s.barriers, x.round ≤ B
theorem Rounds.step {p : Prog} {s : State} {t B : Int} (h : StepOk p s t) (hB : 0 ≤ B) (hr : Rounds s B) : Rounds (doM p s t) (B + 1) := by
 obtain ⟨k, ops, a, st, op, rfl, r, hs⟩ := h.rdy
 intro x hx
 rcases hs.bars with e | ⟨y, e, hy⟩
 · rw [e] at hx
   have := hr x hx
   omega
 · rw [e] at hx
   rcases List.mem_or_eq_of_mem_set hx with hx | rfl
   · have := hr x hx
     omega
   · have hb : (barrierAt s op).round ≤ B := by
       rw [barrierAt, List.getD_eq_getElem?_getD]
       cases hc : s.barriers[op.on.toNat]? with
       | none => exact hB
       | some z => exact hr z (List.mem_of_getElem? hc)
     omega
theorem Rounds.worn {p : Prog} {s : State} {t B : Int} (hr : Rounds s B) (h0 : 0 ≤ B) (hB : B < 9999) : ¬ Worn p s t := by
 rintro ⟨_, h⟩
 rw [Barrier.arrive] at h
 split at h
 · cases h
 split at h
 · rename_i h9
   have hb : (barrierAt s (opAt p s t)).round ≤ B := by
     rw [barrierAt, List.getD_eq_getElem?_getD]
     cases hc : s.barriers[(opAt p s t).on.toNat]? with
     | none => exact h0
     | some z => exact hr z (List.mem_of_getElem? hc)
   omega
 · cases h
def EntW (v : Value) (L : List Fct) : Prop := ∃ (m : Once) (y : Sl) (u : Int) (b : Bool), v = .tuple #[onceV m y, .int .i64 u, .bool b] ∧ (b = true → OnceOk m) ∧ L = [own y 3 cInt 1 m.waits]
def FinW (v : Value) (L : List Fct) : Prop := ∃ (m : Once) (y z : Sl) (xs : List Int) (b : Bool), v = .tuple #[onceV m y, z.val xs.length, .bool b] ∧ (b = true → OnceOk m) ∧ L = [own y 3 cInt 1 m.waits, own z 3 cInt 1 xs]
set_option maxHeartbeats 4000000 in
set_option maxRecDepth 100000 in
theorem enterW_c (m : Once) (q : Sl) (t : Int) (w : World) (h : At w [slo q cInt 1 m.waits]) (ok : OnceOk m) (ht : isThread t = true) :
   Calls Tryz.prog 150 #[onceV m q, .int .i64 t] w (Ret w EntW) := by
 have hb := onceOk_len ok
 refine calls2 Tryz.func150 rfl tabOk w _ rfl _ rfl _ h ⟨rfl, rfl, trivial⟩ _ _ (by decide) ?_
 refine stop_call _ cl114 rfl rfl rfl rfl ⟨rfl, rfl⟩ (fun A w hW => onceValidS_c m q w ⟨z29, trivial⟩ (by omega)) ?_
 rintro v L ⟨b, rfl, hbb, rfl⟩
 obtain rfl : b = true := hbb.2 ok
 refine CaseB.mk (fun g => by simp at g) (fun _ => ?_)
 refine stop_call _ cl157 rfl rfl rfl rfl ⟨rfl, rfl⟩ (fun A w hW => l1Thread_c _ w) ?_
 rintro v L ⟨rfl, rfl⟩
 refine CaseB.mk (fun g => by rw [ht] at g; simp at g) (fun _ => ?_)
 refine stop_call _ cl144 rfl rfl rfl rfl ⟨rfl, rfl⟩ (fun A w hW => l2Once_c m q w ⟨z29, trivial⟩ (by omega)) ?_
 rintro v L ⟨y, rfl, rfl⟩
 apply CaseB.mk <;> intro g
 · exact retw [99] ⟨⟨1, t, 0, []⟩, nil4, 0, true, rfl, fun _ => (onceOk1 rfl).2 ⟨ht, rfl, show distinct [] = true by decide, by simp⟩, rfl⟩ z120 rfl ⟨rfl, trivial⟩ (fun _ => rfl)
 have e0 : ¬ m.state = 0 := by simpa using g
 apply CaseB.mk <;> intro g
 · exact retw [0] ⟨m, y, 2, true, rfl, fun _ => ok, rfl⟩ z133 rfl ⟨rfl, trivial⟩ (fun _ => rfl)
 have e2 : ¬ m.state = 2 := by simpa using g
 have e1 : m.state = 1 := by
   rcases ok with h | h | h
   · exact (e0 h.1).elim
   · exact h.1
   · exact (e2 h.1).elim
 have o1 := (onceOk1 e1).1 ok
 apply CaseB.mk <;> intro g
 · exact retw [99] ⟨⟨0, 0, 0, []⟩, nil4, 0, false, rfl, fun h => z97, rfl⟩ z120 rfl ⟨rfl, trivial⟩ (fun _ => rfl)
 have hno : ¬ t = m.owner := by simpa using g
 refine stop_call _ cl94 rfl rfl rfl rfl ⟨rfl, rfl⟩ (fun A w hW => l2At_c q m.waits t w ⟨z29, trivial⟩ (by omega)) ?_
 rintro v L ⟨rfl, rfl⟩
 apply CaseB.mk <;> intro g
 · exact retw [99] ⟨⟨0, 0, 0, []⟩, nil4, 0, false, rfl, fun h => z97, rfl⟩ z120 rfl ⟨rfl, trivial⟩ (fun _ => rfl)
 have hn : t ∉ m.waits := fun hm => by have := (atM_mem _ _).2 hm; have g' := of_decide_eq_false g; omega
 refine AllSl.mk fun z => ?_
 refine stop_appK encInt tabOk (ys := [t]) rfl rfl rfl rfl rfl rfl rfl rfl rfl (by decide) ⟨rfl, rfl⟩ z34 z30 z38 z38 (fun y2 => ?_)
 exact retw [0] ⟨{ m with waits := m.waits ++ [t] }, y2, 1, true, rfl, fun _ => (onceOk1 (m := { m with waits := m.waits ++ [t] }) e1).2 ⟨o1.1, o1.2.1, distinct_snoc o1.2.2.1 ht hn, fun hm => (List.mem_append.1 hm).elim o1.2.2.2 (fun hm => hno (List.mem_singleton.1 hm).symm)⟩, rfl⟩ z133 rfl ⟨rfl, trivial⟩ (fun _ => rfl)
set_option maxHeartbeats 4000000 in
set_option maxRecDepth 100000 in
theorem finishW_c (m : Once) (q : Sl) (t u : Int) (w : World) (h : At w [slo q cInt 1 m.waits]) (ok : OnceOk m) (hv : isValue u = true) :
   Calls Tryz.prog 151 #[onceV m q, .int .i64 t, .int .i64 u] w (Ret w FinW) := by
 have hb := onceOk_len ok
 refine calls3 Tryz.func151 rfl tabOk w _ rfl _ rfl _ h ⟨rfl, rfl, trivial⟩ _ _ _ (by decide) ?_
 refine stop_call _ cl120 rfl rfl rfl rfl ⟨rfl, rfl⟩ (fun A w hW => runs_c m q t w ⟨z29, trivial⟩ (by omega)) ?_
 rintro v L ⟨b, rfl, hbb, rfl⟩
 apply CaseB.mk <;> intro g
 · refine AllSl.mk fun z => ?_
   exact retw [99, 0] ⟨⟨0, 0, 0, []⟩, nil4, z, [], false, rfl, fun h => z97, rfl⟩ z115 rfl ⟨rfl, rfl, trivial⟩ (fun _ => rfl)
 obtain ⟨_, h1, ho⟩ := hbb.1 z91
 have o1 := (onceOk1 h1).1 ok
 refine stop_call _ cl67 rfl rfl rfl rfl ⟨rfl, rfl⟩ (fun A w hW => l2Value_c _ w) ?_
 rintro v L ⟨rfl, rfl⟩
 refine CaseB.mk (fun g => by simp [hv] at g) (fun _ => ?_)
 refine AllSl.mk fun z => ?_
 refine stop_appK encInt tabOk (xs := []) rfl rfl rfl rfl rfl rfl rfl rfl rfl (by decide) ⟨rfl, rfl⟩ z34 z30 z38 z38 (fun y => ?_)
 exact retw [99, 0] ⟨⟨2, t, u, []⟩, nil4, y, m.waits, true, rfl, fun _ => (onceOk2 rfl).2 ⟨by rw [← ho]; exact o1.1, hv, rfl⟩, rfl⟩ z115 rfl ⟨rfl, rfl, trivial⟩ (fun _ => rfl)
set_option maxHeartbeats 16000000 in
set_option maxRecDepth 100000 in
theorem drawOnce_c (g : Nat) (bi : Sl) (rb : List UInt8) (p : Nat) (w : World) (hg : Blk w g 139 (rdrV bi rb p)) (h : AtP w g [slo bi cByte 1 rb]) (hb : rb.length ≤ 2000) (hp : p < 1000000) :
   Calls Tryz.prog 99 #[.pointer (some ⟨g, 0, none⟩)] w (RetP w g 139 2 fun v cs L => ∃ (m : Once) (q : Sl) (p2 : Nat), v = onceV m q ∧ OnceOk m ∧ cs = rdrV bi rb p2 ∧ p2 ≤ p + 10 ∧ L = [own q 3 cInt 1 m.waits]) := by
 refine callsP1 Tryz.func99 rfl tabOk w _ rfl _ rfl _ 139 _ 2 rfl hg _ h ⟨rfl, rfl, trivial⟩ (by decide) ?_
 refine AllSl.mk fun l1 => ?_
 refine stop_callP _ cl71 rfl rfl rfl rfl ⟨rfl, rfl⟩ rfl rfl (fun A w ga hga hW hblk => (num_c ga bi rb _ _ [2, 1, 3, 4, 0] w hblk ⟨z28, z28, trivial⟩ hb (by omega) (by decide))) ?_
 rintro v cs L ⟨x0, rfl, hx0, rfl, rfl⟩
 have hx4 : 0 ≤ x0 ∧ x0 ≤ 4 := by simp at hx0; omega
 clear hx0
 refine LoopW.mk ⟨{ u : Int × Once × Sl × Nat // (0 ≤ u.1 ∧ u.1 ≤ 4) ∧ u.2.2.2 + u.1 ≤ (p : Int) + 5 ∧ OnceOk u.2.1 },
   fun u => .mk [(0, .p 0 0), (2, .p 1 0), (3, .p 2 0), (4, .v (.int .i64 u.1.1))] 3 0 [(2, 70, 4), (1, 70, 4), (0, 139, 2)] [((0, 0), .v (bi.val rb.length)), ((0, 1), .v (.int .i64 (u.1.2.2.2 : Int))), ((2, 0), .v (.int .i64 u.1.2.1.state)), ((2, 1), .v (.int .i64 u.1.2.1.owner)), ((2, 2), .v (.int .i64 u.1.2.1.value)), ((2, 3), .v (u.1.2.2.1.val u.1.2.1.waits.length))] [own u.1.2.2.1 3 cInt 1 u.1.2.1.waits, slo bi cByte 1 rb],
   fun u => u.1.1.toNat, ⟨(x0, ⟨0, 0, 0, []⟩, nil4, p + 1), hx4, by simp only; omega, (onceOk0 rfl).2 ⟨rfl, rfl, rfl⟩⟩, ?_, ?_⟩
 · exact weak_mk [99, 1] zw2 zw0 zw2 zw5 zw4 rfl rfl
 rintro ⟨⟨i, m, q, p1⟩, i1, i2, i3⟩
 simp only at i1 i2 i3 ⊢
 refine CaseB.mk (fun gi => ?_) (fun gi => ?_)
 · have hi : 0 < i := by have := of_decide_eq_true gi; omega
   have hwi : IntKind.i64.wrap (i - 1) = i - 1 := by rw [wrap_nn] <;> omega
   refine draw_cut { u : Once × Sl × Int × Bool // u.2.2.2 = true → OnceOk u.1 } (fun u => .mk [(0, .p 0 0), (2, .p 1 0), (3, .p 2 0), (4, .v (.int .i64 i)), (5, .p 3 0), (7, .v (.bool u.1.2.2.2))] 4 0 [(3, 70, 4), (2, 70, 4), (1, 70, 4), (0, 139, 2)] [((0, 0), .v (bi.val rb.length)), ((0, 1), .v (.int .i64 ((p1 + 1 : Nat) : Int))), ((2, 0), .v (.int .i64 m.state)), ((2, 1), .v (.int .i64 m.owner)), ((2, 2), .v (.int .i64 m.value)), ((2, 3), .v (q.val m.waits.length)), ((3, 0), .v (.int .i64 u.1.1.state)), ((3, 1), .v (.int .i64 u.1.1.owner)), ((3, 2), .v (.int .i64 u.1.1.value)), ((3, 3), .v (u.1.2.1.val u.1.1.waits.length))] [own u.1.2.1 3 cInt 1 u.1.1.waits, own q 3 cInt 1 m.waits, slo bi cByte 1 rb]) ?_ ?_
   · refine draw_start tabOk z95 z95 z95 200 [((2, 0), .v (.int .i64 m.state)), ((2, 1), .v (.int .i64 m.owner)), ((2, 2), .v (.int .i64 m.value)), ((2, 3), .v (q.val m.waits.length))] [] [] z111 z125 trivial rfl ?_
     refine BothW.mk ?_ ?_
     all_goals
       refine d_callP _ cl41 rfl rfl rfl rfl ⟨rfl, rfl⟩ rfl rfl rfl (fun A w ga hga hW hblk => (pick_c ga bi rb _ _ w hblk ⟨z28, trivial⟩ hb (by omega))) ?_
       rintro v cs L ⟨t, rfl, ht, _, rfl, rfl⟩
       have ht6 := ht (by decide)
       first
       | refine BothW.mk ?_ ?_
       | skip
       all_goals
         refine d_call _ cl150 rfl rfl rfl rfl ⟨rfl, rfl⟩ (fun A w hW => enterW_c m q t w ⟨hW.get 0 rfl (.own), trivial⟩ i3 (by simp [isThread]; omega)) ?_
         rintro v L ⟨m2, q2, u2, b2, rfl, hm2, rfl⟩
         refine ⟨⟨(m2, q2, u2, b2), hm2⟩, ?_⟩
         exact weak_mk [0, 1, 2] zw2 zw0 zw2 zw5 zw4 rfl rfl
   rintro ⟨⟨m2, q2, u2, b2⟩, hm2⟩
   simp only at hm2 ⊢
   refine CaseB.mk (fun g2 => ?_) (fun g2 => ?_)
   · refine ⟨⟨(i - 1, m2, q2, p1 + 1), by simp only; omega, by simp only; omega, hm2 z87⟩, ?_, by simp only; omega⟩
     exact weak_mk [0, 2] zw9 zw0 zw9 zw5 zw21 rfl rfl
   · refine ⟨⟨(i - 1, m, q, p1 + 1), by simp only; omega, by simp only; omega, i3⟩, ?_, by simp only; omega⟩
     exact weak_mk [1, 2] zw9 zw0 zw9 zw5 zw21 rfl rfl
 have hi : i = 0 := by have := of_decide_eq_false gi; omega
 refine stop_callP _ cl41 rfl rfl rfl rfl ⟨rfl, rfl⟩ rfl rfl (fun A w ga hga hW hblk => (pick_c ga bi rb _ _ w hblk ⟨z28, trivial⟩ hb (by omega))) ?_
 rintro v cs L ⟨k, rfl, _, _, rfl, rfl⟩
 refine CaseB.mk (fun gk => ?_) (fun gk => ?_)
 · refine draw_cut { u : Once × Sl × Bool // u.2.2 = true → OnceOk u.1 } (fun u => .mk [(2, .p 1 0), (3, .p 2 0), (8, .p 3 0), (10, .v (.bool u.1.2.2))] 4 0 [(3, 70, 4), (2, 70, 4), (1, 70, 4), (0, 139, 2)] [((0, 0), .v (bi.val rb.length)), ((0, 1), .v (.int .i64 ((p1 + 1 + 1 : Nat) : Int))), ((2, 0), .v (.int .i64 m.state)), ((2, 1), .v (.int .i64 m.owner)), ((2, 2), .v (.int .i64 m.value)), ((2, 3), .v (q.val m.waits.length)), ((3, 0), .v (.int .i64 u.1.1.state)), ((3, 1), .v (.int .i64 u.1.1.owner)), ((3, 2), .v (.int .i64 u.1.1.value)), ((3, 3), .v (u.1.2.1.val u.1.1.waits.length))] [own u.1.2.1 3 cInt 1 u.1.1.waits, own q 3 cInt 1 m.waits, slo bi cByte 1 rb]) ?_ ?_
   · refine draw_start tabOk z95 z95 z95 200 [((2, 0), .v (.int .i64 m.state)), ((2, 1), .v (.int .i64 m.owner)), ((2, 2), .v (.int .i64 m.value)), ((2, 3), .v (q.val m.waits.length))] [] [] z111 z125 trivial rfl ?_
     refine BothW.mk ?_ ?_
     all_goals
       refine AllSl.mk fun l2 => ?_
       first
       | refine BothW.mk ?_ ?_
       | skip
       all_goals
         refine d_callP _ cl71 rfl rfl rfl rfl ⟨rfl, rfl⟩ rfl rfl rfl (fun A w ga hga hW hblk => (num_c ga bi rb _ _ [7, 0, 99] w hblk ⟨z28, z28, trivial⟩ hb (by omega) (by decide))) ?_
         rintro v cs L ⟨x, rfl, hx, rfl, rfl⟩
         have hxv : isValue x = true := by simp at hx; rcases hx with rfl | rfl | rfl <;> rfl
         first
         | refine BothW.mk ?_ ?_
         | skip
         all_goals
           refine d_call _ cl151 rfl rfl rfl rfl ⟨rfl, rfl⟩ (fun A w hW => finishW_c m q _ x w ⟨hW.get 1 rfl (.own), trivial⟩ i3 hxv) ?_
           rintro v L ⟨m2, q2, z2, xs2, b2, rfl, hm2, rfl⟩
           refine ⟨⟨(m2, q2, b2), hm2⟩, ?_⟩
           exact weak_mk [0, 3, 4] zw2 zw0 zw2 zw5 zw4 rfl rfl
   rintro ⟨⟨m2, q2, b2⟩, hm2⟩
   simp only at hm2 ⊢
   refine CaseB.mk (fun g2 => ?_) (fun g2 => ?_)
   · exact retP [0] ⟨m2, q2, _, rfl, hm2 z87, rfl, by omega, rfl⟩ rfl rfl z133 rfl ⟨rfl, trivial⟩ (fun _ => rfl)
   · exact retP [1] ⟨m, q, _, rfl, i3, rfl, by omega, rfl⟩ rfl rfl z133 rfl ⟨rfl, trivial⟩ (fun _ => rfl)
 exact retP [0] ⟨m, q, _, rfl, i3, rfl, by omega, rfl⟩ rfl rfl z133 rfl ⟨rfl, trivial⟩ (fun _ => rfl)
end Go.Proofs.YtjkkoonennpceaaGreat
