/- FnExactChoicesOf: texts that its proof stands on, part 12. -/
import Derived.ProofKit
import Derived.Deep.Slices
import Derived.Laws.StructEq
import Derived.Test.YtijmjecehppbfaaGreatQExactChoicesOfk
namespace Go.Proofs.YtijmjecehppbfaaGreat
open Go Go.Sx Go.RowKit
theorem rdMem {Zs G : List Fct} (hm : fR G ∈ Zs) {o : Bool} {i : Sl} {sz m : Nat} {cs : List Value} (r : Rd (fR G) (fSl o i sz cs m)) : ∀ w, (∀ f ∈ Zs, f.P w) → RdS w i sz cs m := fun w h => r.p w (h _ hm)
set_option maxHeartbeats 40000000 in
set_option maxRecDepth 100000 in
theorem l7Copy_c (s : StateH) (w : World) (h : At w [fR (stateO s)]) (hb : s.pure.small20) :
   Calls Tryz.prog 81 #[stateV s] w (Ret w fun v L => ∃ y : StateH, v = stateV y ∧ y.pure = s.pure ∧ L = [fO (stateO y)]) := by
 obtain ⟨b0, b1, b2, b3, b4, b5, b6, b7⟩ := hb
 have l0 : s.places.length ≤ 1048576 := b0
 have l1 : s.status.length ≤ 1048576 := b1
 have l7 : s.said.length ≤ 1048576 := b7
 have l2 : s.sems.length ≤ 1048576 := (allS_map b2).1
 have l3 : s.onces.length ≤ 1048576 := (allS_map b3).1
 have l4 : s.groups.length ≤ 1048576 := (allS_map b4).1
 have l5 : s.barriers.length ≤ 1048576 := (allS_map b5).1
 have l6 : s.chans.length ≤ 1048576 := (allS_map b6).1
 refine calls1 Tryz.func81 rfl tabOk w _ rfl _ rfl _ h ⟨rfl, rfl, trivial⟩ _ (by decide) ?_
 refine draw_cut (Sl × Sl × Sl) (fun y => .mk [(1, .p 0 0), (2, .p 1 0), (3, .p 2 0)] 3 0 [(0, 35, 9), (1, 35, 9), (2, 35, 9)] [((0, 0), .v (s.h0.val s.places.length)), ((0, 1), .v (s.h1.val s.status.length)), ((0, 2), .v (s.h2.val s.sems.length)), ((0, 3), .v (s.h3.val s.onces.length)), ((0, 4), .v (s.h4.val s.groups.length)), ((0, 5), .v (s.h5.val s.barriers.length)), ((0, 6), .v (s.h6.val s.chans.length)), ((0, 7), .v (s.h7.val s.said.length)), ((0, 8), .v (.int .i64 s.fault)), ((2, 0), .v (y.1.val s.places.length)), ((2, 1), .v (y.2.1.val s.status.length)), ((2, 2), .v (.slice none 0 0)), ((2, 3), .v (.slice none 0 0)), ((2, 4), .v (.slice none 0 0)), ((2, 5), .v (.slice none 0 0)), ((2, 6), .v (.slice none 0 0)), ((2, 7), .v (y.2.2.val s.said.length)), ((2, 8), .v (.int .i64 s.fault))] [own y.1 3 cInt 1 s.places, own y.2.1 3 cInt 1 s.status, own y.2.2 3 cInt 1 s.said, fR (stateO s)]) ?_ ?_
 · refine draw_start tabOk z97 z97 z97 200 [((0, 0), .v (s.h0.val s.places.length)), ((0, 1), .v (s.h1.val s.status.length)), ((0, 7), .v (s.h7.val s.said.length)), ((0, 8), .v (.int .i64 s.fault))] [] [] z119 z134 trivial rfl ?_
   repeat' ((conv => whnf); (first
     | refine BothW.mk ?_ ?_
     | refine AllSl.mk fun y => ?_
     | (refine opd_app rfl rfl ?_; refine d_appK (ti := tiOf tab) encInt tabOk (xs := ([] : List Int)) rfl rfl rfl rfl rfl rfl rfl rfl rfl (by decide) ⟨rfl, rfl⟩ z41 (by first | exact rdMem z81 (.ofR (stateO_places s)) | exact rdMem z81 (.ofR (stateO_status s)) | exact rdMem z81 (.ofR (stateO_said s))) z45 z45 z95 (fun y => ?_))
     | fail))
   all_goals
     refine ⟨(?_, ?_, ?_), ?_⟩
     rotate_left 3
     exact weak_mk [2, 1, 0, 3] zw2 zw0 zw2 zw5 zw4 rfl rfl
 rintro ⟨a, b, d⟩
 simp only
 refine LoopW.mk ⟨{ q : Nat × Sl × List SemH // q.1 ≤ s.sems.length ∧ q.2.2.map (·.m) = (s.sems.map (·.m)).take q.1 },
   fun q => .mk [(1, .p 0 0), (2, .p 1 0), (3, .p 2 0), (4, .v (.int .i64 (q.1.1 : Int)))] 3 0 [(0, 35, 9), (1, 35, 9), (2, 35, 9)] [((0, 0), .v (s.h0.val s.places.length)), ((0, 1), .v (s.h1.val s.status.length)), ((0, 2), .v (s.h2.val s.sems.length)), ((0, 3), .v (s.h3.val s.onces.length)), ((0, 4), .v (s.h4.val s.groups.length)), ((0, 5), .v (s.h5.val s.barriers.length)), ((0, 6), .v (s.h6.val s.chans.length)), ((0, 7), .v (s.h7.val s.said.length)), ((0, 8), .v (.int .i64 s.fault)), ((2, 0), .v (a.val s.places.length)), ((2, 1), .v (b.val s.status.length)), ((2, 2), .v (q.1.2.1.val q.1.2.2.length)), ((2, 3), .v (.slice none 0 0)), ((2, 4), .v (.slice none 0 0)), ((2, 5), .v (.slice none 0 0)), ((2, 6), .v (.slice none 0 0)), ((2, 7), .v (d.val s.said.length)), ((2, 8), .v (.int .i64 s.fault))] [own q.1.2.1 95 cSemH 3 q.1.2.2, fO (q.1.2.2.flatMap semO), own a 3 cInt 1 s.places, own b 3 cInt 1 s.status, own d 3 cInt 1 s.said, fR (stateO s)],
   fun q => s.sems.length - q.1.1, ⟨(0, ⟨none, 0⟩, []), Nat.zero_le _, by simp⟩, ?_, ?_⟩
 · refine weak_shift (.joinO [] (Gs := []) trivial rfl (.refl _)) ?_
   exact weak_mk [99, 0, 1, 2, 3, 4] zw2 zw0 zw2 zw5 zw4 rfl rfl
 rintro ⟨⟨k, c0, L0⟩, hk, hL0⟩
 simp only at hk hL0
 have ln0 : L0.length = k := by have := congrArg List.length hL0; simp at this; omega
 apply CaseB.mk <;> intro g
 · have hlt : k < s.sems.length := by simpa using g
   have hw := e_succ k _ hlt (by omega)
   have hsm := (allS_map b2).2 _ (List.getElem_mem hlt)
   unfold Sem.small20 at hsm
   refine draw_start tabOk z97 z97 z97 200 [((0, 2), .v (s.h2.val s.sems.length))] [5] [_] z142 z146 ⟨rfl, trivial⟩ rfl ?_
   refine d_idx (ti := tiOf tab) encSemH tabOk rfl rfl rfl rfl rfl ⟨rfl, rfl⟩ (rdVia 0 rfl (.trans (.R_R (stateO_sems s)) (.ofR nest_h))) k rfl z45 (fun ad => ?_)
   refine BothW.mk ?_ ?_
   all_goals
     refine d_call _ cl142 rfl rfl rfl rfl ⟨rfl, rfl⟩ (fun A w hW => l1Copy_c _ _ w ⟨hW.get 5 rfl (.trans (.R_R (stateO_sems s)) (.ofR (semsO_0 _ _ k hlt))), trivial⟩ (by omega)) ?_
     rintro v L ⟨y0, rfl, rfl⟩
   rotate_left
   · refine BothW.mk ?_ ?_
     all_goals
       refine AllSl.mk fun u2 => ?_
       refine d_app (ti := tiOf tab) encSemH 2 tabOk (ys := [⟨(s.sems[k]).m, y0⟩]) rfl rfl rfl rfl rfl rfl rfl rfl rfl (by decide) ⟨rfl, rfl⟩ rfl z38 z45 z45 z95 (fun c2 => ?_)
       refine ⟨⟨(k + 1, c2, L0 ++ [⟨(s.sems[k]).m, y0⟩]), hlt, by rw [List.map_append]; exact map_take_succ hlt hL0 rfl⟩, ?_, by simp only; omega⟩
       refine weak_shift (.joinO [2, 3] (Gs := [[_], _]) z132 rfl (G := (L0 ++ [(⟨(s.sems[k]).m, y0⟩ : SemH)]).flatMap semO) z52) ?_
       exact weak_mk [1, 0, 3, 4, 5, 6] zw1 zw0 zw1 zw5 zw3 rfl rfl
   refine AllSl.mk fun u2 => ?_
   refine d_app (ti := tiOf tab) encSemH 2 tabOk (ys := [⟨(s.sems[k]).m, y0⟩]) rfl rfl rfl rfl rfl rfl rfl rfl rfl (by decide) ⟨rfl, rfl⟩ rfl z38 z45 z45 z95 (fun c2 => ?_)
   refine ⟨⟨(k + 1, c2, L0 ++ [⟨(s.sems[k]).m, y0⟩]), hlt, by rw [List.map_append]; exact map_take_succ hlt hL0 rfl⟩, ?_, by simp only; omega⟩
   refine weak_shift (.joinO [2, 3] (Gs := [[_], _]) z132 rfl (G := (L0 ++ [(⟨(s.sems[k]).m, y0⟩ : SemH)]).flatMap semO) z52) ?_
   exact weak_mk [1, 0, 3, 4, 5, 6] zw1 zw0 zw1 zw5 zw3 rfl rfl
 have hge : s.sems.length ≤ k := by simpa using g
 rw [List.take_of_length_le z90] at hL0
 refine LoopW.mk ⟨{ q : Nat × Sl × List OnceH // q.1 ≤ s.onces.length ∧ q.2.2.map (·.m) = (s.onces.map (·.m)).take q.1 },
   fun q => .mk [(1, .p 0 0), (2, .p 1 0), (3, .p 2 0), (5, .v (.int .i64 (q.1.1 : Int)))] 3 0 [(0, 35, 9), (1, 35, 9), (2, 35, 9)] [((0, 0), .v (s.h0.val s.places.length)), ((0, 1), .v (s.h1.val s.status.length)), ((0, 2), .v (s.h2.val s.sems.length)), ((0, 3), .v (s.h3.val s.onces.length)), ((0, 4), .v (s.h4.val s.groups.length)), ((0, 5), .v (s.h5.val s.barriers.length)), ((0, 6), .v (s.h6.val s.chans.length)), ((0, 7), .v (s.h7.val s.said.length)), ((0, 8), .v (.int .i64 s.fault)), ((2, 0), .v (a.val s.places.length)), ((2, 1), .v (b.val s.status.length)), ((2, 2), .v (c0.val L0.length)), ((2, 3), .v (q.1.2.1.val q.1.2.2.length)), ((2, 4), .v (.slice none 0 0)), ((2, 5), .v (.slice none 0 0)), ((2, 6), .v (.slice none 0 0)), ((2, 7), .v (d.val s.said.length)), ((2, 8), .v (.int .i64 s.fault))] [own q.1.2.1 102 cOnceH 4 q.1.2.2, fO (q.1.2.2.flatMap onceO), fO (semsO c0 L0), own a 3 cInt 1 s.places, own b 3 cInt 1 s.status, own d 3 cInt 1 s.said, fR (stateO s)],
   fun q => s.onces.length - q.1.1, ⟨(0, ⟨none, 0⟩, []), Nat.zero_le _, by simp⟩, ?_, ?_⟩
 · refine weak_shift (.joinO [0, 1] (Gs := [[_], _]) z132 rfl (G := semsO c0 L0) (.of_eq (by simp [semsO, nestO]))) ?_
   refine weak_shift (.joinO [] (Gs := []) trivial rfl (.refl _)) ?_
   exact weak_mk [99, 0, 1, 2, 3, 4, 5] zw2 zw0 zw2 zw5 zw4 rfl rfl
 rintro ⟨⟨k, c1, L1⟩, hk, hL1⟩
 simp only at hk hL1
 have ln1 : L1.length = k := by have := congrArg List.length hL1; simp at this; omega
 apply CaseB.mk <;> intro g
 · have hlt : k < s.onces.length := by simpa using g
   have hw := e_succ k _ hlt (by omega)
   have hsm := (allS_map b3).2 _ (List.getElem_mem hlt)
   unfold Once.small20 at hsm
   refine draw_start tabOk z97 z97 z97 200 [((0, 3), .v (s.h3.val s.onces.length))] [6] [_] z142 z146 ⟨rfl, trivial⟩ rfl ?_
   refine d_idx (ti := tiOf tab) encOnceH tabOk rfl rfl rfl rfl rfl ⟨rfl, rfl⟩ (rdVia 0 rfl (.trans (.R_R (stateO_onces s)) (.ofR nest_h))) k rfl z45 (fun ad => ?_)
   refine BothW.mk ?_ ?_
   all_goals
     refine d_call _ cl143 rfl rfl rfl rfl ⟨rfl, rfl⟩ (fun A w hW => l2Once_c _ _ w ⟨hW.get 6 rfl (.trans (.R_R (stateO_onces s)) (.ofR (oncesO_0 _ _ k hlt))), trivial⟩ (by omega)) ?_
     rintro v L ⟨y0, rfl, rfl⟩
   rotate_left
   · refine BothW.mk ?_ ?_
     all_goals
       refine AllSl.mk fun u2 => ?_
       refine d_app (ti := tiOf tab) encOnceH 2 tabOk (ys := [⟨(s.onces[k]).m, y0⟩]) rfl rfl rfl rfl rfl rfl rfl rfl rfl (by decide) ⟨rfl, rfl⟩ rfl z38 z45 z45 z95 (fun c2 => ?_)
       refine ⟨⟨(k + 1, c2, L1 ++ [⟨(s.onces[k]).m, y0⟩]), hlt, by rw [List.map_append]; exact map_take_succ hlt hL1 rfl⟩, ?_, by simp only; omega⟩
       refine weak_shift (.joinO [2, 3] (Gs := [[_], _]) z132 rfl (G := (L1 ++ [(⟨(s.onces[k]).m, y0⟩ : OnceH)]).flatMap onceO) z50) ?_
       exact weak_mk [1, 0, 3, 4, 5, 6, 7] zw1 zw0 zw1 zw5 zw3 rfl rfl
   refine AllSl.mk fun u2 => ?_
   refine d_app (ti := tiOf tab) encOnceH 2 tabOk (ys := [⟨(s.onces[k]).m, y0⟩]) rfl rfl rfl rfl rfl rfl rfl rfl rfl (by decide) ⟨rfl, rfl⟩ rfl z38 z45 z45 z95 (fun c2 => ?_)
   refine ⟨⟨(k + 1, c2, L1 ++ [⟨(s.onces[k]).m, y0⟩]), hlt, by rw [List.map_append]; exact map_take_succ hlt hL1 rfl⟩, ?_, by simp only; omega⟩
   refine weak_shift (.joinO [2, 3] (Gs := [[_], _]) z132 rfl (G := (L1 ++ [(⟨(s.onces[k]).m, y0⟩ : OnceH)]).flatMap onceO) z50) ?_
   exact weak_mk [1, 0, 3, 4, 5, 6, 7] zw1 zw0 zw1 zw5 zw3 rfl rfl
 have hge : s.onces.length ≤ k := by simpa using g
 rw [List.take_of_length_le z90] at hL1
 refine LoopW.mk ⟨{ q : Nat × Sl × List GroupH // q.1 ≤ s.groups.length ∧ q.2.2.map (·.m) = (s.groups.map (·.m)).take q.1 },
   fun q => .mk [(1, .p 0 0), (2, .p 1 0), (3, .p 2 0), (6, .v (.int .i64 (q.1.1 : Int)))] 3 0 [(0, 35, 9), (1, 35, 9), (2, 35, 9)] [((0, 0), .v (s.h0.val s.places.length)), ((0, 1), .v (s.h1.val s.status.length)), ((0, 2), .v (s.h2.val s.sems.length)), ((0, 3), .v (s.h3.val s.onces.length)), ((0, 4), .v (s.h4.val s.groups.length)), ((0, 5), .v (s.h5.val s.barriers.length)), ((0, 6), .v (s.h6.val s.chans.length)), ((0, 7), .v (s.h7.val s.said.length)), ((0, 8), .v (.int .i64 s.fault)), ((2, 0), .v (a.val s.places.length)), ((2, 1), .v (b.val s.status.length)), ((2, 2), .v (c0.val L0.length)), ((2, 3), .v (c1.val L1.length)), ((2, 4), .v (q.1.2.1.val q.1.2.2.length)), ((2, 5), .v (.slice none 0 0)), ((2, 6), .v (.slice none 0 0)), ((2, 7), .v (d.val s.said.length)), ((2, 8), .v (.int .i64 s.fault))] [own q.1.2.1 108 cGroupH 2 q.1.2.2, fO (q.1.2.2.flatMap groupO), fO (oncesO c1 L1), fO (semsO c0 L0), own a 3 cInt 1 s.places, own b 3 cInt 1 s.status, own d 3 cInt 1 s.said, fR (stateO s)],
   fun q => s.groups.length - q.1.1, ⟨(0, ⟨none, 0⟩, []), Nat.zero_le _, by simp⟩, ?_, ?_⟩
 · refine weak_shift (.joinO [0, 1] (Gs := [[_], _]) z132 rfl (G := oncesO c1 L1) (.of_eq (by simp [oncesO, nestO]))) ?_
   refine weak_shift (.joinO [] (Gs := []) trivial rfl (.refl _)) ?_
   exact weak_mk [99, 0, 1, 2, 3, 4, 5, 6] zw2 zw0 zw2 zw5 zw4 rfl rfl
 rintro ⟨⟨k, c2, L2⟩, hk, hL2⟩
 simp only at hk hL2
 have ln2 : L2.length = k := by have := congrArg List.length hL2; simp at this; omega
 apply CaseB.mk <;> intro g
 · have hlt : k < s.groups.length := by simpa using g
   have hw := e_succ k _ hlt (by omega)
   have hsm := (allS_map b4).2 _ (List.getElem_mem hlt)
   unfold Group.small20 at hsm
   refine draw_start tabOk z97 z97 z97 200 [((0, 4), .v (s.h4.val s.groups.length))] [7] [_] z142 z146 ⟨rfl, trivial⟩ rfl ?_
   refine d_idx (ti := tiOf tab) encGroupH tabOk rfl rfl rfl rfl rfl ⟨rfl, rfl⟩ (rdVia 0 rfl (.trans (.R_R (stateO_groups s)) (.ofR nest_h))) k rfl z45 (fun ad => ?_)
   refine d_idx (ti := tiOf tab) encGroupH tabOk rfl rfl rfl rfl rfl ⟨rfl, rfl⟩ (rdVia 0 rfl (.trans (.R_R (stateO_groups s)) (.ofR nest_h))) k rfl z45 (fun ad2 => ?_)
   refine BothW.mk ?_ ?_
   · skip
     refine AllSl.mk fun u1 => ?_
     refine d_app (ti := tiOf tab) encInt 0 tabOk (xs := []) (ys := (s.groups[k]).m.waits) rfl rfl rfl rfl rfl rfl rfl rfl rfl (by decide) ⟨rfl, rfl⟩ rfl (rdVia 8 rfl (.trans (.R_R (stateO_groups s)) (.ofR (groupsO_0 _ _ k hlt)))) z45 z45 z95 (fun y0 => ?_)
     refine AllSl.mk fun u2 => ?_
     refine d_app (ti := tiOf tab) encGroupH 2 tabOk (ys := [⟨(s.groups[k]).m, y0⟩]) rfl rfl rfl rfl rfl rfl rfl rfl rfl (by decide) ⟨rfl, rfl⟩ rfl z38 z45 z45 z95 (fun c2 => ?_)
     refine ⟨⟨(k + 1, c2, L2 ++ [⟨(s.groups[k]).m, y0⟩]), hlt, by rw [List.map_append]; exact map_take_succ hlt hL2 rfl⟩, ?_, by simp only; omega⟩
     refine weak_shift (.joinO [2, 3] (Gs := [[_], _]) z132 rfl (G := (L2 ++ [(⟨(s.groups[k]).m, y0⟩ : GroupH)]).flatMap groupO) z49) ?_
     exact weak_mk [1, 0, 3, 4, 5, 6, 7, 8] zw1 zw0 zw1 zw5 zw3 rfl rfl
   refine AllSl.mk fun u1 => ?_
   refine BothW.mk ?_ ?_
   · skip
     refine d_app (ti := tiOf tab) encInt 0 tabOk (xs := []) (ys := (s.groups[k]).m.waits) rfl rfl rfl rfl rfl rfl rfl rfl rfl (by decide) ⟨rfl, rfl⟩ rfl (rdVia 8 rfl (.trans (.R_R (stateO_groups s)) (.ofR (groupsO_0 _ _ k hlt)))) z45 z45 z95 (fun y0 => ?_)
     refine AllSl.mk fun u2 => ?_
     refine d_app (ti := tiOf tab) encGroupH 2 tabOk (ys := [⟨(s.groups[k]).m, y0⟩]) rfl rfl rfl rfl rfl rfl rfl rfl rfl (by decide) ⟨rfl, rfl⟩ rfl z38 z45 z45 z95 (fun c2 => ?_)
     refine ⟨⟨(k + 1, c2, L2 ++ [⟨(s.groups[k]).m, y0⟩]), hlt, by rw [List.map_append]; exact map_take_succ hlt hL2 rfl⟩, ?_, by simp only; omega⟩
     refine weak_shift (.joinO [2, 3] (Gs := [[_], _]) z132 rfl (G := (L2 ++ [(⟨(s.groups[k]).m, y0⟩ : GroupH)]).flatMap groupO) z49) ?_
     exact weak_mk [1, 0, 3, 4, 5, 6, 7, 8] zw1 zw0 zw1 zw5 zw3 rfl rfl
   refine d_app (ti := tiOf tab) encInt 0 tabOk (xs := []) (ys := (s.groups[k]).m.waits) rfl rfl rfl rfl rfl rfl rfl rfl rfl (by decide) ⟨rfl, rfl⟩ rfl (rdVia 8 rfl (.trans (.R_R (stateO_groups s)) (.ofR (groupsO_0 _ _ k hlt)))) z45 z45 z95 (fun y0 => ?_)
   refine BothW.mk ?_ ?_
   all_goals
     refine AllSl.mk fun u2 => ?_
     refine d_app (ti := tiOf tab) encGroupH 2 tabOk (ys := [⟨(s.groups[k]).m, y0⟩]) rfl rfl rfl rfl rfl rfl rfl rfl rfl (by decide) ⟨rfl, rfl⟩ rfl z38 z45 z45 z95 (fun c2 => ?_)
     refine ⟨⟨(k + 1, c2, L2 ++ [⟨(s.groups[k]).m, y0⟩]), hlt, by rw [List.map_append]; exact map_take_succ hlt hL2 rfl⟩, ?_, by simp only; omega⟩
     refine weak_shift (.joinO [2, 3] (Gs := [[_], _]) z132 rfl (G := (L2 ++ [(⟨(s.groups[k]).m, y0⟩ : GroupH)]).flatMap groupO) z49) ?_
     exact weak_mk [1, 0, 3, 4, 5, 6, 7, 8] zw1 zw0 zw1 zw5 zw3 rfl rfl
 have hge : s.groups.length ≤ k := by simpa using g
 rw [List.take_of_length_le z90] at hL2
 refine LoopW.mk ⟨{ q : Nat × Sl × List BarrierH // q.1 ≤ s.barriers.length ∧ q.2.2.map (·.m) = (s.barriers.map (·.m)).take q.1 },
   fun q => .mk [(1, .p 0 0), (2, .p 1 0), (3, .p 2 0), (7, .v (.int .i64 (q.1.1 : Int)))] 3 0 [(0, 35, 9), (1, 35, 9), (2, 35, 9)] [((0, 0), .v (s.h0.val s.places.length)), ((0, 1), .v (s.h1.val s.status.length)), ((0, 2), .v (s.h2.val s.sems.length)), ((0, 3), .v (s.h3.val s.onces.length)), ((0, 4), .v (s.h4.val s.groups.length)), ((0, 5), .v (s.h5.val s.barriers.length)), ((0, 6), .v (s.h6.val s.chans.length)), ((0, 7), .v (s.h7.val s.said.length)), ((0, 8), .v (.int .i64 s.fault)), ((2, 0), .v (a.val s.places.length)), ((2, 1), .v (b.val s.status.length)), ((2, 2), .v (c0.val L0.length)), ((2, 3), .v (c1.val L1.length)), ((2, 4), .v (c2.val L2.length)), ((2, 5), .v (q.1.2.1.val q.1.2.2.length)), ((2, 6), .v (.slice none 0 0)), ((2, 7), .v (d.val s.said.length)), ((2, 8), .v (.int .i64 s.fault))] [own q.1.2.1 114 cBarrierH 3 q.1.2.2, fO (q.1.2.2.flatMap barrierO), fO (groupsO c2 L2), fO (oncesO c1 L1), fO (semsO c0 L0), own a 3 cInt 1 s.places, own b 3 cInt 1 s.status, own d 3 cInt 1 s.said, fR (stateO s)],
   fun q => s.barriers.length - q.1.1, ⟨(0, ⟨none, 0⟩, []), Nat.zero_le _, by simp⟩, ?_, ?_⟩
 · refine weak_shift (.joinO [0, 1] (Gs := [[_], _]) z132 rfl (G := groupsO c2 L2) (.of_eq (by simp [groupsO, nestO]))) ?_
   refine weak_shift (.joinO [] (Gs := []) trivial rfl (.refl _)) ?_
   exact weak_mk [99, 0, 1, 2, 3, 4, 5, 6, 7] zw2 zw0 zw2 zw5 zw4 rfl rfl
 rintro ⟨⟨k, c3, L3⟩, hk, hL3⟩
 simp only at hk hL3
 have ln3 : L3.length = k := by have := congrArg List.length hL3; simp at this; omega
 apply CaseB.mk <;> intro g
 · have hlt : k < s.barriers.length := by simpa using g
   have hw := e_succ k _ hlt (by omega)
   have hsm := (allS_map b5).2 _ (List.getElem_mem hlt)
   unfold Barrier.small20 at hsm
   refine stop_idx encBarrierH tabOk rfl rfl rfl rfl rfl ⟨rfl, rfl⟩ (rdVia 8 rfl (.trans (.R_R (stateO_barriers s)) (.ofR nest_h))) k rfl z45 (fun ad => ?_)
   refine draw_start tabOk z97 z97 z97 200 [((3, 0), .v (.int .i64 (s.barriers[k]).m.parties)), ((3, 1), .v (.int .i64 (s.barriers[k]).m.round)), ((3, 2), .v ((s.barriers[k]).q.val (s.barriers[k]).m.waits.length))] [8] [_] z126 z138 ⟨rfl, trivial⟩ rfl ?_
   refine BothW.mk ?_ ?_
   · skip
     refine AllSl.mk fun u1 => ?_
     refine d_app (ti := tiOf tab) encInt 0 tabOk (xs := []) (ys := (s.barriers[k]).m.waits) rfl rfl rfl rfl rfl rfl rfl rfl rfl (by decide) ⟨rfl, rfl⟩ rfl (rdVia 9 rfl (.trans (.R_R (stateO_barriers s)) (.ofR (barriersO_0 _ _ k hlt)))) z45 z45 z95 (fun y0 => ?_)
     refine AllSl.mk fun u2 => ?_
     refine d_app (ti := tiOf tab) encBarrierH 2 tabOk (ys := [⟨(s.barriers[k]).m, y0⟩]) rfl rfl rfl rfl rfl rfl rfl rfl rfl (by decide) ⟨rfl, rfl⟩ rfl z38 z45 z45 z95 (fun c2 => ?_)
     refine ⟨⟨(k + 1, c2, L3 ++ [⟨(s.barriers[k]).m, y0⟩]), hlt, by rw [List.map_append]; exact map_take_succ hlt hL3 rfl⟩, ?_, by simp only; omega⟩
     refine weak_shift (.joinO [2, 3] (Gs := [[_], _]) z132 rfl (G := (L3 ++ [(⟨(s.barriers[k]).m, y0⟩ : BarrierH)]).flatMap barrierO) z48) ?_
     exact weak_mk [1, 0, 3, 4, 5, 6, 7, 8, 9] zw1 zw0 zw1 zw5 zw3 rfl rfl
   refine AllSl.mk fun u1 => ?_
   refine BothW.mk ?_ ?_
   · skip
     refine d_app (ti := tiOf tab) encInt 0 tabOk (xs := []) (ys := (s.barriers[k]).m.waits) rfl rfl rfl rfl rfl rfl rfl rfl rfl (by decide) ⟨rfl, rfl⟩ rfl (rdVia 9 rfl (.trans (.R_R (stateO_barriers s)) (.ofR (barriersO_0 _ _ k hlt)))) z45 z45 z95 (fun y0 => ?_)
     refine AllSl.mk fun u2 => ?_
     refine d_app (ti := tiOf tab) encBarrierH 2 tabOk (ys := [⟨(s.barriers[k]).m, y0⟩]) rfl rfl rfl rfl rfl rfl rfl rfl rfl (by decide) ⟨rfl, rfl⟩ rfl z38 z45 z45 z95 (fun c2 => ?_)
     refine ⟨⟨(k + 1, c2, L3 ++ [⟨(s.barriers[k]).m, y0⟩]), hlt, by rw [List.map_append]; exact map_take_succ hlt hL3 rfl⟩, ?_, by simp only; omega⟩
     refine weak_shift (.joinO [2, 3] (Gs := [[_], _]) z132 rfl (G := (L3 ++ [(⟨(s.barriers[k]).m, y0⟩ : BarrierH)]).flatMap barrierO) z48) ?_
     exact weak_mk [1, 0, 3, 4, 5, 6, 7, 8, 9] zw1 zw0 zw1 zw5 zw3 rfl rfl
   refine d_app (ti := tiOf tab) encInt 0 tabOk (xs := []) (ys := (s.barriers[k]).m.waits) rfl rfl rfl rfl rfl rfl rfl rfl rfl (by decide) ⟨rfl, rfl⟩ rfl (rdVia 9 rfl (.trans (.R_R (stateO_barriers s)) (.ofR (barriersO_0 _ _ k hlt)))) z45 z45 z95 (fun y0 => ?_)
   refine BothW.mk ?_ ?_
   all_goals
     refine AllSl.mk fun u2 => ?_
     refine d_app (ti := tiOf tab) encBarrierH 2 tabOk (ys := [⟨(s.barriers[k]).m, y0⟩]) rfl rfl rfl rfl rfl rfl rfl rfl rfl (by decide) ⟨rfl, rfl⟩ rfl z38 z45 z45 z95 (fun c2 => ?_)
     refine ⟨⟨(k + 1, c2, L3 ++ [⟨(s.barriers[k]).m, y0⟩]), hlt, by rw [List.map_append]; exact map_take_succ hlt hL3 rfl⟩, ?_, by simp only; omega⟩
     refine weak_shift (.joinO [2, 3] (Gs := [[_], _]) z132 rfl (G := (L3 ++ [(⟨(s.barriers[k]).m, y0⟩ : BarrierH)]).flatMap barrierO) z48) ?_
     exact weak_mk [1, 0, 3, 4, 5, 6, 7, 8, 9] zw1 zw0 zw1 zw5 zw3 rfl rfl
 have hge : s.barriers.length ≤ k := by simpa using g
 rw [List.take_of_length_le z90] at hL3
 refine LoopW.mk ⟨{ q : Nat × Sl × List ChanH // q.1 ≤ s.chans.length ∧ q.2.2.map (·.m) = (s.chans.map (·.m)).take q.1 },
   fun q => .mk [(1, .p 0 0), (2, .p 1 0), (3, .p 2 0), (9, .v (.int .i64 (q.1.1 : Int)))] 3 0 [(0, 35, 9), (1, 35, 9), (2, 35, 9)] [((0, 0), .v (s.h0.val s.places.length)), ((0, 1), .v (s.h1.val s.status.length)), ((0, 2), .v (s.h2.val s.sems.length)), ((0, 3), .v (s.h3.val s.onces.length)), ((0, 4), .v (s.h4.val s.groups.length)), ((0, 5), .v (s.h5.val s.barriers.length)), ((0, 6), .v (s.h6.val s.chans.length)), ((0, 7), .v (s.h7.val s.said.length)), ((0, 8), .v (.int .i64 s.fault)), ((2, 0), .v (a.val s.places.length)), ((2, 1), .v (b.val s.status.length)), ((2, 2), .v (c0.val L0.length)), ((2, 3), .v (c1.val L1.length)), ((2, 4), .v (c2.val L2.length)), ((2, 5), .v (c3.val L3.length)), ((2, 6), .v (q.1.2.1.val q.1.2.2.length)), ((2, 7), .v (d.val s.said.length)), ((2, 8), .v (.int .i64 s.fault))] [own q.1.2.1 119 cChanH 5 q.1.2.2, fO (q.1.2.2.flatMap chanO), fO (barriersO c3 L3), fO (groupsO c2 L2), fO (oncesO c1 L1), fO (semsO c0 L0), own a 3 cInt 1 s.places, own b 3 cInt 1 s.status, own d 3 cInt 1 s.said, fR (stateO s)],
   fun q => s.chans.length - q.1.1, ⟨(0, ⟨none, 0⟩, []), Nat.zero_le _, by simp⟩, ?_, ?_⟩
 · refine weak_shift (.joinO [0, 1] (Gs := [[_], _]) z132 rfl (G := barriersO c3 L3) (.of_eq (by simp [barriersO, nestO]))) ?_
   refine weak_shift (.joinO [] (Gs := []) trivial rfl (.refl _)) ?_
   exact weak_mk [99, 0, 1, 2, 3, 4, 5, 6, 7, 8] zw2 zw0 zw2 zw5 zw4 rfl rfl
 rintro ⟨⟨k, c4, L4⟩, hk, hL4⟩
 simp only at hk hL4
 have ln4 : L4.length = k := by have := congrArg List.length hL4; simp at this; omega
 apply CaseB.mk <;> intro g
 · have hlt : k < s.chans.length := by simpa using g
   have hw := e_succ k _ hlt (by omega)
   have hsm := (allS_map b6).2 _ (List.getElem_mem hlt)
   obtain ⟨z0, z1, z2⟩ := hsm
   refine draw_start tabOk z97 z97 z97 200 [((0, 6), .v (s.h6.val s.chans.length))] [9] [_] z142 z146 ⟨rfl, trivial⟩ rfl ?_
   refine d_idx (ti := tiOf tab) encChanH tabOk rfl rfl rfl rfl rfl ⟨rfl, rfl⟩ (rdVia 0 rfl (.trans (.R_R (stateO_chans s)) (.ofR nest_h))) k rfl z45 (fun ad => ?_)
   refine BothW.mk ?_ ?_
   all_goals
     refine d_call _ cl144 rfl rfl rfl rfl ⟨rfl, rfl⟩ (fun A w hW => copy_c _ _ _ _ w ⟨hW.get 9 rfl (.trans (.R_R (stateO_chans s)) (.ofR (chansO_0 _ _ k hlt))), hW.get 9 rfl (.trans (.R_R (stateO_chans s)) (.ofR (chansO_1 _ _ k hlt))), hW.get 9 rfl (.trans (.R_R (stateO_chans s)) (.ofR (chansO_2 _ _ k hlt))), trivial⟩ ⟨by omega, by omega, by omega⟩) ?_
     rintro v L ⟨y0, y1, y2, rfl, rfl⟩
   rotate_left
   · refine BothW.mk ?_ ?_
     all_goals
       refine AllSl.mk fun u2 => ?_
       refine d_app (ti := tiOf tab) encChanH 4 tabOk (ys := [⟨(s.chans[k]).m, y0, y1, y2⟩]) rfl rfl rfl rfl rfl rfl rfl rfl rfl (by decide) ⟨rfl, rfl⟩ rfl z38 z45 z45 z95 (fun c2 => ?_)
       refine ⟨⟨(k + 1, c2, L4 ++ [⟨(s.chans[k]).m, y0, y1, y2⟩]), hlt, by rw [List.map_append]; exact map_take_succ hlt hL4 rfl⟩, ?_, by simp only; omega⟩
       refine weak_shift (.joinO [2, 3, 4, 5] (Gs := [[_], [_], [_], _]) z117 rfl (G := (L4 ++ [(⟨(s.chans[k]).m, y0, y1, y2⟩ : ChanH)]).flatMap chanO) z51) ?_
       exact weak_mk [1, 0, 3, 4, 5, 6, 7, 8, 9, 10] zw1 zw0 zw1 zw5 zw3 rfl rfl
   refine AllSl.mk fun u2 => ?_
   refine d_app (ti := tiOf tab) encChanH 4 tabOk (ys := [⟨(s.chans[k]).m, y0, y1, y2⟩]) rfl rfl rfl rfl rfl rfl rfl rfl rfl (by decide) ⟨rfl, rfl⟩ rfl z38 z45 z45 z95 (fun c2 => ?_)
   refine ⟨⟨(k + 1, c2, L4 ++ [⟨(s.chans[k]).m, y0, y1, y2⟩]), hlt, by rw [List.map_append]; exact map_take_succ hlt hL4 rfl⟩, ?_, by simp only; omega⟩
   refine weak_shift (.joinO [2, 3, 4, 5] (Gs := [[_], [_], [_], _]) z117 rfl (G := (L4 ++ [(⟨(s.chans[k]).m, y0, y1, y2⟩ : ChanH)]).flatMap chanO) z51) ?_
   exact weak_mk [1, 0, 3, 4, 5, 6, 7, 8, 9, 10] zw1 zw0 zw1 zw5 zw3 rfl rfl
 have hge : s.chans.length ≤ k := by simpa using g
 rw [List.take_of_length_le z90] at hL4
 refine ret_shift (.joinO [0, 1] (Gs := [[_], _]) z132 rfl (G := chansO c4 L4) (.of_eq (by simp [chansO, nestO]))) ?_
 generalize hy : (⟨s.places, s.status, L0, L1, L2, L3, L4, s.said, s.fault, a, b, c0, c1, c2, c3, c4, d⟩ : StateH) = y
 refine ret_shift (.joinO [5, 6, 4, 3, 2, 1, 0, 7] (Gs := [[_], [_], _, _, _, _, _, [_]]) z106 rfl (G := stateO y) (by subst hy; exact .of_eq z92)) ?_
 exact retw [0] ⟨y, by rw [← hy]; rfl, by rw [← hy]; simp [StateH.pure, hL0, hL1, hL2, hL3, hL4], rfl⟩ z140 rfl ⟨rfl, trivial⟩ (fun _ => rfl)
theorem atProg4_le (s : ProgH) (k : Nat) (hb : s.pure.small20) : atProg4 k s ≤ k + 4194304 + 8796093022208 := by
 obtain ⟨b0, b1, b2, b3, b4⟩ := hb
 have t0 : atProg0 k s = k + s.sems.length := rfl
 have t1 : atProg1 k s = atProg0 k s + s.groups.length := rfl
 have t2 : atProg2 k s = atProg1 k s + s.barriers.length := rfl
 have t3 : atProg3 k s = atProg2 k s + s.rooms.length := rfl
 have t4 : atProg4 k s ≤ atProg3 k s + s.threads.length * 8388608 := nxL_le (P := fun x => OpS.small20 x.m) (fun c x h => nxOpS_le c x h) _ _ (allS_map b4).2
 have s0 : s.sems.length ≤ 1048576 := b0
 have s1 : s.groups.length ≤ 1048576 := b1
 have s2 : s.barriers.length ≤ 1048576 := b2
 have s3 : s.rooms.length ≤ 1048576 := b3
 have s4 := (allS_map b4).1
 omega
theorem readyAns_one (p : Prog) (s : State) (hs : s.small20) : ∃ A : List Int, A.length ≤ 1048576 ∧ ∀ xs : List Int, (Fits p s → xs = readyM s) → (¬ Fits p s → xs = []) → xs = A := by
 by_cases h : Fits p s
 · refine ⟨readyM s, ?_, fun xs h1 _ => h1 h⟩
   have h2 : s.status.length ≤ 1048576 := hs.2.1
   rw [readyM]
   split
   · exact Nat.le_trans (readyL_len _) h2
   · simp
 · exact ⟨[], by simp, fun xs _ h2 => h2 h⟩
theorem doM_small {p : Prog} {s : State} {t : Int} (ft : Fits p s) (h : t ∈ readyM s) (hl : (doM p s t).said.length ≤ 64) : (doM p s t).small20 := by
 by_cases hw : Worn p s t
 · obtain ⟨k, ops, a, st, op, rfl, r⟩ := rdy ft h
   rw [Worn, r.at_] at hw
   obtain ⟨k7, hw⟩ := hw
   have e : doM p s (k : Int) = waitM (setBarrier s op ⟨0, 0, []⟩) k 1 := by
     simp only [doM, r.at_, doOp, k7, doArrive, hw]
     simp
   rw [e]
   obtain ⟨b0, b1, b2, b3, b4, b5, b6, b7⟩ := ft.small
   refine ⟨b0, by simpa [waitM, setBarrier] using b1, b2, b3, b4, ⟨by simpa [waitM, setBarrier] using b5.1, fun x hx => ?_⟩, b6, b7⟩
   rcases List.mem_or_eq_of_mem_set hx with hx | rfl
   · exact b5.2 x hx
   · simp [Barrier.small20]
 · exact (step_fits ft h hl hw).small
def StepRS (p : Prog) (s : State) (t : Int) (v : Value) (L : List Fct) : Prop := ∃ (y : StateH) (b : Bool), v = .tuple #[stateV y, .bool b] ∧ (b = true ↔ StepOk p s t) ∧ (b = true → y.pure = doM p s t) ∧ (b = false → y.pure = State.zero) ∧ L = [fN (stateO y)]
set_option maxHeartbeats 32000000 in
set_option maxRecDepth 100000 in
theorem stepThreadS_c (p : ProgH) (s : StateH) (t : Int) (w : World) (h : At w [fR (progO p), fR (stateO s)]) (hp : p.pure.small20) (hs : s.pure.small20) :
   Calls Tryz.prog 29 #[progV p, stateV s, .int .i64 t] w (Ret w (StepRS p.pure s.pure t)) := by
 have hb : s.status.length ≤ 1048576 := hs.2.1
 obtain ⟨A, hA, one⟩ := readyAns_one p.pure s.pure hs
 refine calls3 Tryz.func29 rfl tabOk w _ rfl _ rfl _ h ⟨rfl, rfl, rfl, rfl, trivial⟩ _ _ _ (by decide) ?_
 refine stop_call _ cl79 rfl rfl rfl rfl ⟨rfl, rfl⟩ (fun A w hW => readyThreadsS_c p s w ⟨hW.get 0 rfl (.refl _), hW.get 1 rfl (.refl _), trivial⟩ hp hs) ?_
 rintro v L ⟨yr, xs, rfl, h1, h2, rfl⟩
 have hxl : xs.length ≤ 1048576 := by rw [one xs h1 h2]; exact hA
 refine stop_call _ cl54 rfl rfl rfl rfl ⟨rfl, rfl⟩ (fun A w hW => l2At_c yr xs t w ⟨z37, trivial⟩ (by omega)) ?_
 rintro v L ⟨rfl, rfl⟩
 apply CaseB.mk <;> intro g
 · have hn : t ∉ xs := fun hm => by have := (atM_mem xs t).2 hm; have g' := of_decide_eq_true g; omega
   have n : ¬ StepOk p.pure s.pure t := fun e => hn (by rw [h1 e.1]; exact e.2.1)
   refine ret_shift (.joinO [90] (Gs := [_]) ⟨.inr ⟨Nat.le_of_ble_eq_true rfl, zero_nil⟩, trivial⟩ rfl (G := stateO StateH.zero) (.of_eq (by simp))) ?_
   refine ret_shift (Shift.pack (G := stateO StateH.zero) (fun g hg => inON 0 rfl hg)) ?_
   exact retw [0] ⟨StateH.zero, false, rfl, tno n, fun e => z100, fun _ => rfl, rfl⟩ z140 rfl ⟨rfl, trivial⟩ (fun _ => rfl)
 have hmx : t ∈ xs := (atM_mem xs t).1 (by have g' := of_decide_eq_false g; omega)
 have ft : Fits p.pure s.pure := Classical.byContradiction fun n => by rw [h2 n] at hmx; cases hmx
 have hm : t ∈ readyM s.pure := by rw [← h1 ft]; exact hmx
 obtain ⟨_, k, _, rfl, _⟩ := readyM_mem hm
 refine draw_cut { y : StateH // y.pure = doM p.pure s.pure k } (fun y => .mk [(3, .p 0 0), (6, .p 2 0), (8, .p 3 0)] 4 0 [(0, 26, 5), (2, 35, 9), (3, 35, 9)] [((0, 0), .v (p.h0.val p.sems.length)), ((0, 1), .v (p.h1.val p.groups.length)), ((0, 2), .v (p.h2.val p.barriers.length)), ((0, 3), .v (p.h3.val p.rooms.length)), ((0, 4), .v (p.h4.val p.threads.length)), ((3, 0), .v (y.1.h0.val y.1.places.length)), ((3, 1), .v (y.1.h1.val y.1.status.length)), ((3, 2), .v (y.1.h2.val y.1.sems.length)), ((3, 3), .v (y.1.h3.val y.1.onces.length)), ((3, 4), .v (y.1.h4.val y.1.groups.length)), ((3, 5), .v (y.1.h5.val y.1.barriers.length)), ((3, 6), .v (y.1.h6.val y.1.chans.length)), ((3, 7), .v (y.1.h7.val y.1.said.length)), ((3, 8), .v (.int .i64 y.1.fault))] [fN (stateO y.1), fR (progO p)]) ?_ ?_
 · refine draw_start tabOk z97 z97 z97 200 [((0, 0), .v (p.h0.val p.sems.length)), ((0, 1), .v (p.h1.val p.groups.length)), ((0, 2), .v (p.h2.val p.barriers.length)), ((0, 3), .v (p.h3.val p.rooms.length)), ((0, 4), .v (p.h4.val p.threads.length)), ((1, 0), .v (s.h0.val s.places.length)), ((1, 1), .v (s.h1.val s.status.length)), ((1, 2), .v (s.h2.val s.sems.length)), ((1, 3), .v (s.h3.val s.onces.length)), ((1, 4), .v (s.h4.val s.groups.length)), ((1, 5), .v (s.h5.val s.barriers.length)), ((1, 6), .v (s.h6.val s.chans.length)), ((1, 7), .v (s.h7.val s.said.length)), ((1, 8), .v (.int .i64 s.fault))] [] [] z101 z107 trivial rfl ?_
   refine BothW.mk ?_ ?_
   all_goals
     refine d_call _ cl81 rfl rfl rfl rfl ⟨rfl, rfl⟩ (fun A w hW => l7Copy_c s w ⟨hW.get 2 rfl (.refl _), trivial⟩ hs) ?_
     rintro v L ⟨y, rfl, hy, rfl⟩
   refine BothW.mk ?_ ?_
   all_goals
     conv => whnf
     refine d_shift (Shift.splitO 0 (L := outerO y) (G := stateO y) (G' := innerO y) rfl (stateO_perm y)) z95 ?_
     refine d_callG _ [0, 1, 2, 3, 4, 5, 6, 7, 8] (G := [_, _, _, _, _, _, _, _, _]) cl80 rfl rfl rfl rfl ⟨rfl, rfl⟩ z131 z116 z95 (fun A w hW => (l7Do_c p y k (by rw [hy]; exact ft) (by rw [hy]; exact hm) w (hW.atG [0, 1, 2, 3, 4, 5, 6, 7, 8] (G := [_, _, _, _, _, _, _, _, _]) z131 rfl z116 [10] (Fo := [_]) z145 rfl))) ?_
     rintro v L ⟨y2, rfl, hy2, rfl⟩
     rw [hy] at hy2
     refine ⟨⟨y2, hy2⟩, ?_⟩
     exact weak_mk [0, 2] zw2 zw0 zw2 zw5 zw4 rfl rfl
 rintro ⟨y2, hy2⟩
 simp only
 apply CaseB.mk <;> intro g
 · have hl : ¬ (doM p.pure s.pure k).said.length ≤ 64 := by
     have g' := of_decide_eq_true g
     rw [← hy2]
     show ¬ y2.said.length ≤ 64
     omega
   have n : ¬ StepOk p.pure s.pure k := fun e => hl e.2.2.1
   refine ret_shift (.joinO [90] (Gs := [_]) ⟨.inr ⟨Nat.le_of_ble_eq_true rfl, zero_nil⟩, trivial⟩ rfl (G := stateO StateH.zero) (.of_eq (by simp))) ?_
   refine ret_shift (Shift.pack (G := stateO StateH.zero) (fun g hg => inON 0 rfl hg)) ?_
   exact retw [0] ⟨StateH.zero, false, rfl, tno n, fun e => z100, fun _ => rfl, rfl⟩ z140 rfl ⟨rfl, trivial⟩ (fun _ => rfl)
 have hl : (doM p.pure s.pure k).said.length ≤ 64 := by
   have g' := of_decide_eq_false g
   rw [← hy2]
   show y2.said.length ≤ 64
   omega
 refine stop_call _ cl82 rfl rfl rfl rfl ⟨rfl, rfl⟩ (fun A w hW => stateFitsS_c p y2 w ⟨hW.get 1 rfl (.refl _), hW.get 0 rfl (fN_fR _), trivial⟩ hp (by rw [hy2]; exact doM_small ft hm hl)) ?_
 rintro v L ⟨b, rfl, hbb, rfl⟩
 rw [hy2] at hbb
 apply CaseB.mk <;> intro g
 · have n : ¬ StepOk p.pure s.pure k := fun e => by rw [hbb.2 e.2.2.2] at g; cases g
   refine ret_shift (.joinO [90] (Gs := [_]) ⟨.inr ⟨Nat.le_of_ble_eq_true rfl, zero_nil⟩, trivial⟩ rfl (G := stateO StateH.zero) (.of_eq (by simp))) ?_
   refine ret_shift (Shift.pack (G := stateO StateH.zero) (fun g hg => inON 0 rfl hg)) ?_
   exact retw [0] ⟨StateH.zero, false, rfl, tno n, fun e => z100, fun _ => rfl, rfl⟩ z140 rfl ⟨rfl, trivial⟩ (fun _ => rfl)
 have hok : StepOk p.pure s.pure k := ⟨ft, hm, hl, hbb.1 z94⟩
 exact retw [0] ⟨y2, true, rfl, tyes hok, fun _ => hy2, fun e => z100, rfl⟩ z140 rfl ⟨rfl, trivial⟩ (fun _ => rfl)
theorem Shift.packK {Zs G : List Fct} (k : Nat) (hk : Zs[k]? = some (fO G)) : Shift Zs (fN G :: Zs.eraseIdx k) := by
 intro E A n B M w h
 have hsub := h.sub (eraseIdx_sub Zs k)
 have hdj := pairwise_nth_erase h.dj hk
 have hfk := h.fct _ (List.mem_of_getElem? hk)
 have key : ∀ g ∈ G, Rd (fO G) (Fct.fresh g) := fun g hg => fresh_rd (.ofO ⟨g, hg, .refl _⟩)
 have hP : ∀ g' ∈ G.map Fct.fresh, g'.P w := fun g' hg' => by
   obtain ⟨g, hg, rfl⟩ := List.mem_map.1 hg'
   exact (key g hg).p w hfk.1
 have hfoot : ∀ b, (fN G).foot b → (fO G).foot b := by
   rintro b ⟨g', hg', hb⟩
   obtain ⟨g, hg, rfl⟩ := List.mem_map.1 hg'
   exact (key g hg).foot b hb
 refine ⟨h.key, h.inj, h.mem, h.a0, h.n0, h.ext, fun f hf => ?_, ?_⟩
 · rcases List.mem_cons.1 hf with rfl | hf
   · exact ⟨hP, fun b hb => hfk.2.1 b (hfoot b hb), fun _ b hb => hfk.2.2 rfl b (hfoot b hb)⟩
   · exact hsub.fct f hf
 · rw [List.pairwise_cons]
   exact ⟨fun f hf ho b hb hb' => hdj f hf (.inl rfl) b (hfoot b hb) hb', hsub.dj⟩
def RunRS (S : Option State) (v : Value) (L : List Fct) : Prop := ∃ (y : StateH) (z : Sl) (n : Nat) (b : Bool), v = .tuple #[runV y z n, .bool b] ∧ (b = true ↔ S.isSome = true) ∧ L = []
set_option maxHeartbeats 32000000 in
set_option maxRecDepth 100000 in
theorem replayS_c (p : ProgH) (q : Sl) (tc : List Int) (w : World) (h : At w [fR (progO p), slo q cInt 1 tc]) (hp : p.pure.small20) :
   Calls Tryz.prog 53 #[progV p, q.val tc.length] w (Ret w (RunRS (replayP p.pure tc))) := by
 have hq := h.2.1
 refine calls2 Tryz.func53 rfl tabOk w _ rfl _ rfl _ h ⟨rfl, rfl, rfl, rfl, trivial⟩ _ _ (by decide) ?_
 refine stop_call _ cl46 rfl rfl rfl rfl ⟨rfl, rfl⟩ (fun A w hW => startProgS_c p w ⟨hW.get 0 rfl (.refl _), trivial⟩ (prog_small hp)) ?_
 rintro v L ⟨y0, b0, rfl, i1, i2, i3, rfl⟩
 apply CaseB.mk <;> intro g
 · have e : b0 = false := by simpa using g
   have n : replayP p.pure tc = none := by
     rw [replayP, if_neg]
     rintro ⟨ok, _⟩
     rw [i1.2 ok] at e; cases e
   rw [n]
   exact ret0 ⟨StateH.zero, nil4, 0, false, rfl, by simp, rfl⟩ (fun _ => rfl)
 have e : b0 = true := by simpa using g
 have ok := i1.1 e
 have hst := i2 e
 apply CaseB.mk <;> intro g
 · have n : replayP p.pure tc = none := by
     rw [replayP, if_neg]
     rintro ⟨_, h⟩
     have g' := of_decide_eq_true g
     omega
   rw [n]
   exact ret0 ⟨StateH.zero, nil4, 0, false, rfl, by simp, rfl⟩ (fun _ => rfl)
 have hl : tc.length ≤ 100 := by have g' := of_decide_eq_false g; omega
 have hR : replayP p.pure tc = replayM p.pure (start p.pure) tc := by rw [replayP, if_pos ⟨ok, hl⟩]
 rw [hR]
 refine LoopW.mk ⟨{ u : Nat × StateH // u.1 ≤ tc.length ∧ replayM p.pure (start p.pure) (tc.take u.1) = some u.2.pure ∧ u.2.pure.small20 },
   fun u => .mk [(1, .v (q.val tc.length)), (2, .p 0 0), (4, .p 1 0), (6, .p 2 0), (8, .v (.int .i64 (u.1.1 : Int)))] 3 0 [(0, 26, 5), (1, 37, 10), (2, 35, 9)] [((0, 0), .v (p.h0.val p.sems.length)), ((0, 1), .v (p.h1.val p.groups.length)), ((0, 2), .v (p.h2.val p.barriers.length)), ((0, 3), .v (p.h3.val p.rooms.length)), ((0, 4), .v (p.h4.val p.threads.length)), ((2, 0), .v (u.1.2.h0.val u.1.2.places.length)), ((2, 1), .v (u.1.2.h1.val u.1.2.status.length)), ((2, 2), .v (u.1.2.h2.val u.1.2.sems.length)), ((2, 3), .v (u.1.2.h3.val u.1.2.onces.length)), ((2, 4), .v (u.1.2.h4.val u.1.2.groups.length)), ((2, 5), .v (u.1.2.h5.val u.1.2.barriers.length)), ((2, 6), .v (u.1.2.h6.val u.1.2.chans.length)), ((2, 7), .v (u.1.2.h7.val u.1.2.said.length)), ((2, 8), .v (.int .i64 u.1.2.fault))] [fN (stateO u.1.2), fR (progO p), slo q cInt 1 tc],
   fun u => tc.length - u.1.1, ⟨(0, y0), Nat.zero_le _, by simp [replayM, hst], by rw [hst]; exact start_small ok⟩, ?_, ?_⟩
 · refine weak_shift (Shift.packK (G := stateO y0) 0 rfl) ?_
   exact weak_mk [0, 1, 2] zw2 zw0 zw2 zw5 zw4 rfl rfl
 rintro ⟨⟨k, yS⟩, hk, hy, hys⟩
 simp only at hk hy hys ⊢
 apply CaseB.mk <;> intro g
 · have hkt : k < tc.length := by simpa using g
   have hw := e_succ k _ hkt (by omega)
   obtain ⟨t, ht⟩ : ∃ t, t = tc[k] := ⟨_, rfl⟩
   have hsp : tc.take (k + 1) = tc.take k ++ [t] := by rw [ht]; exact List.take_succ_eq_append_getElem hkt
   refine draw_cut { u : StateH × Bool // (u.2 = true ↔ StepOk p.pure yS.pure t) ∧ (u.2 = true → u.1.pure = doM p.pure yS.pure t) } (fun u => .mk [(1, .v (q.val tc.length)), (2, .p 0 0), (4, .p 1 0), (6, .p 2 0), (8, .v (.int .i64 (k : Int))), (9, .p 3 0), (10, .v (.bool u.1.2))] 4 0 [(0, 26, 5), (1, 37, 10), (2, 35, 9), (3, 35, 9)] [((0, 0), .v (p.h0.val p.sems.length)), ((0, 1), .v (p.h1.val p.groups.length)), ((0, 2), .v (p.h2.val p.barriers.length)), ((0, 3), .v (p.h3.val p.rooms.length)), ((0, 4), .v (p.h4.val p.threads.length)), ((3, 0), .v (u.1.1.h0.val u.1.1.places.length)), ((3, 1), .v (u.1.1.h1.val u.1.1.status.length)), ((3, 2), .v (u.1.1.h2.val u.1.1.sems.length)), ((3, 3), .v (u.1.1.h3.val u.1.1.onces.length)), ((3, 4), .v (u.1.1.h4.val u.1.1.groups.length)), ((3, 5), .v (u.1.1.h5.val u.1.1.barriers.length)), ((3, 6), .v (u.1.1.h6.val u.1.1.chans.length)), ((3, 7), .v (u.1.1.h7.val u.1.1.said.length)), ((3, 8), .v (.int .i64 u.1.1.fault))] [fN (stateO u.1.1), fR (progO p), slo q cInt 1 tc]) ?_ ?_
   · refine draw_start tabOk z97 z97 z97 200 [((0, 0), .v (p.h0.val p.sems.length)), ((0, 1), .v (p.h1.val p.groups.length)), ((0, 2), .v (p.h2.val p.barriers.length)), ((0, 3), .v (p.h3.val p.rooms.length)), ((0, 4), .v (p.h4.val p.threads.length)), ((2, 0), .v (yS.h0.val yS.places.length)), ((2, 1), .v (yS.h1.val yS.status.length)), ((2, 2), .v (yS.h2.val yS.sems.length)), ((2, 3), .v (yS.h3.val yS.onces.length)), ((2, 4), .v (yS.h4.val yS.groups.length)), ((2, 5), .v (yS.h5.val yS.barriers.length)), ((2, 6), .v (yS.h6.val yS.chans.length)), ((2, 7), .v (yS.h7.val yS.said.length)), ((2, 8), .v (.int .i64 yS.fault))] [2] [_] z101 z107 ⟨rfl, trivial⟩ rfl ?_
     refine d_idx (ti := tiOf tab) encInt tabOk rfl rfl rfl rfl rfl ⟨rfl, rfl⟩ z38 k rfl z45 (fun ad => ?_)
     rw [← ht]
     refine BothW.mk ?_ ?_
     all_goals
       refine d_call _ cl29 rfl rfl rfl rfl ⟨rfl, rfl⟩ (fun A w hW => stepThreadS_c p yS t w ⟨hW.get 1 rfl (.refl _), hW.get 0 rfl (fN_fR _), trivial⟩ hp hys) ?_
       rintro v L ⟨y3, b2, rfl, j1, j2, j3, rfl⟩
       refine ⟨⟨(y3, b2), j1, j2⟩, ?_⟩
       exact weak_mk [0, 2, 3] zw2 zw0 zw2 zw5 zw4 rfl rfl
   rintro ⟨⟨y3, b2⟩, j1, j2⟩
   simp only at j1 j2 ⊢
   apply CaseB.mk <;> intro g
   · have n : replayM p.pure (start p.pure) tc = none := by
       have e : b2 = false := by simpa using g
       have hn : ¬ StepOk p.pure yS.pure t := fun h => by rw [j1.2 h] at e; cases e
       have h1 : replayM p.pure (start p.pure) (tc.take (k + 1)) = none := by
         rw [hsp, replayM_snoc, hy]; simp only [if_neg hn]
       have := replayM_none p.pure (start p.pure) (tc.take (k + 1)) (tc.drop (k + 1)) h1
       rwa [List.take_append_drop] at this
     rw [n]
     exact ret0 ⟨StateH.zero, nil4, 0, false, rfl, by simp, rfl⟩ (fun _ => rfl)
   have e2 : b2 = true := by simpa using g
   have hok := j1.1 e2
   have hy3 := j2 e2
   refine ⟨⟨(k + 1, y3), hkt, by rw [hsp, replayM_snoc, hy]; simp only [if_pos hok, hy3], by rw [hy3]; exact hok.2.2.2.small⟩, ?_, by simp only; omega⟩
   exact weak_mk [0, 1, 2] zw1 zw0 zw1 zw5 zw3 rfl rfl
 have hge : tc.length ≤ k := by simpa using g
 rw [List.take_of_length_le hge] at hy
 rw [hy]
 refine draw_start tabOk z97 z97 z97 200 [((2, 0), .v (yS.h0.val yS.places.length)), ((2, 1), .v (yS.h1.val yS.status.length)), ((2, 2), .v (yS.h2.val yS.sems.length)), ((2, 3), .v (yS.h3.val yS.onces.length)), ((2, 4), .v (yS.h4.val yS.groups.length)), ((2, 5), .v (yS.h5.val yS.barriers.length)), ((2, 6), .v (yS.h6.val yS.chans.length)), ((2, 7), .v (yS.h7.val yS.said.length)), ((2, 8), .v (.int .i64 yS.fault))] [2] [_] z105 z115 ⟨rfl, trivial⟩ rfl ?_
 repeat' ((conv => whnf); (first
   | refine BothW.mk ?_ ?_
   | refine AllSl.mk fun y => ?_
   | (refine opd_app rfl rfl ?_; refine d_appK (ti := tiOf tab) encInt tabOk (xs := ([] : List Int)) rfl rfl rfl rfl rfl rfl rfl rfl rfl (by decide) ⟨rfl, rfl⟩ z41 z38 z45 z45 z95 (fun y => ?_))
   | fail))
 all_goals
   exact ret0 ⟨yS, _, _, true, rfl, by simp, rfl⟩ (fun _ => rfl)
theorem replayM_in (p : Prog) : ∀ (s : State) (tc : List Int), (replayM p s tc).isSome = true → ∀ t ∈ tc, 0 ≤ t ∧ t < (p.threads.length : Int)
 | s, [], _, t, ht => by cases ht
 | s, x :: r, h, t, ht => by
   simp only [replayM] at h
   split at h
   · rename_i hx
     rcases List.mem_cons.1 ht with rfl | ht
     · obtain ⟨k, ops, a, st, op, rfl, rr⟩ := rdy hx.1 hx.2.1
       have := rr.kn
       omega
     · exact replayM_in p _ r h t ht
   · cases h
theorem replayP_in {p : Prog} {tc : List Int} (h : (replayP p tc).isSome = true) : tc.length ≤ 100 ∧ p.threads.length ≤ 4 ∧ ∀ t ∈ tc, 0 ≤ t ∧ t < (p.threads.length : Int) := by
 rw [replayP] at h
 split at h
 · rename_i hc; exact ⟨hc.2, hc.1.n4, replayM_in p _ _ h⟩
 · cases h
noncomputable def stAt (p : Prog) (tc : List Int) (k : Nat) : State := (replayM p (start p) (tc.take k)).getD (start p)
noncomputable def choM (p : Prog) (tc : List Int) (k : Nat) : List Int := (List.range k).map fun i => atM (readyM (stAt p tc i)) (tc.getD i 0)
theorem choM_len (p : Prog) (tc : List Int) (k : Nat) : (choM p tc k).length = k := by simp [choM]
theorem choM_succ (p : Prog) (tc : List Int) {k : Nat} (hk : k < tc.length) : choM p tc (k + 1) = choM p tc k ++ [atM (readyM (stAt p tc k)) tc[k]] := by
 simp only [choM, List.range_succ, List.map_append, List.map_cons, List.map_nil]
 rw [List.getD_eq_getElem?_getD, List.getElem?_eq_getElem hk]
 rfl
theorem replayM_small {p : Prog} : ∀ {s s' : State} {l : List Int}, s.small20 → replayM p s l = some s' → s'.small20
 | s, s', [], h, e => by simp only [replayM, Option.some.injEq] at e; exact e ▸ h
 | s, s', x :: r, h, e => by
   simp only [replayM] at e
   split at e
   · rename_i hx; exact replayM_small hx.2.2.2.small e
   · cases e
theorem replayM_take {p : Prog} {s : State} {tc : List Int} (h : (replayM p s tc).isSome = true) (k : Nat) : (replayM p s (tc.take k)).isSome = true := by
 cases e : replayM p s (tc.take k) with
 | some _ => rfl
 | none =>
   have := replayM_none p s (tc.take k) (tc.drop k) e
   rw [List.take_append_drop] at this
   rw [this] at h
   exact h
theorem replayP_at {p : Prog} {tc : List Int} (h : (replayP p tc).isSome = true) (k : Nat) : ProgOk p ∧ replayP p (tc.take k) = some (stAt p tc k) ∧ replayM p (start p) (tc.take k) = some (stAt p tc k) ∧ (stAt p tc k).small20 := by
 rw [replayP] at h
 split at h
 · rename_i hc
   obtain ⟨s, hs⟩ := Option.isSome_iff_exists.1 (replayM_take h k)
   have e : stAt p tc k = s := by rw [stAt, hs]; rfl
   refine ⟨hc.1, ?_, by rw [e]; exact hs, by rw [e]; exact replayM_small (start_small hc.1) hs⟩
   rw [replayP, if_pos ⟨hc.1, by rw [List.length_take]; omega⟩, hs, e]
 · cases h
def ChoR (p : Prog) (tc : List Int) (v : Value) (L : List Fct) : Prop := ∃ (z : Sl) (xs : List Int) (b : Bool), v = .tuple #[z.val xs.length, .bool b] ∧ (b = true ↔ (replayP p tc).isSome = true) ∧ (b = true → xs = choM p tc tc.length) ∧ (b = false → xs = []) ∧ L = [own z 3 cInt 1 xs]
theorem readyM_len (s : State) : (readyM s).length ≤ s.status.length := by
 rw [readyM]
 split
 · exact readyL_len _
 · exact Nat.zero_le _
set_option maxHeartbeats 16000000 in
set_option maxRecDepth 100000 in
theorem choices_c (p : ProgH) (q : Sl) (tc : List Int) (w : World) (h : At w [fR (progO p), slo q cInt 1 tc]) (hp : p.pure.small20) :
   Calls Tryz.prog 21 #[progV p, q.val tc.length] w (Ret w (ChoR p.pure tc)) := by
 refine calls2 Tryz.func21 rfl tabOk w _ rfl _ rfl _ h ⟨rfl, rfl, rfl, rfl, trivial⟩ _ _ (by decide) ?_
 refine stop_call _ cl56 rfl rfl rfl rfl ⟨rfl, rfl⟩ (fun A w hW => replay_c p q tc w ⟨hW.get 0 rfl (.refl _), hW.get 1 rfl (.refl _), trivial⟩ hp) ?_
 rintro v L ⟨y, z0, tr, b, rfl, hb, hb2, rfl⟩
 apply CaseB.mk <;> intro g
 · have e : b = false := by simpa using g
   exact retw [99] ⟨nil4, [], false, rfl, ⟨fun e => z100, fun h => by rw [hb.2 h] at e; cases e⟩, fun e => z100, fun _ => rfl, rfl⟩ z128 rfl ⟨rfl, trivial⟩ (fun _ => rfl)
 have e : b = true := by simpa using g
 have hs := hb.1 e
 obtain ⟨hl, n4, hin⟩ := replayP_in hs
 refine LoopW.mk ⟨{ u : Nat × Sl // u.1 ≤ tc.length },
   fun u => .mk [(1, .v (q.val tc.length)), (2, .p 0 0), (8, .v (u.1.2.val (choM p.pure tc u.1.1).length)), (21, .v (q.val tc.length)), (22, .v (.int .i64 (tc.length : Int))), (23, .v (.int .i64 (u.1.1 : Int)))] 2 0 [(0, 26, 5)] [((0, 0), .v (p.h0.val p.sems.length)), ((0, 1), .v (p.h1.val p.groups.length)), ((0, 2), .v (p.h2.val p.barriers.length)), ((0, 3), .v (p.h3.val p.rooms.length)), ((0, 4), .v (p.h4.val p.threads.length))] [own u.1.2 3 cInt 1 (choM p.pure tc u.1.1), fR (progO p), slo q cInt 1 tc],
   fun u => tc.length - u.1.1, ⟨(0, nil4), Nat.zero_le _⟩, ?_, ?_⟩
 · exact weak_mk [99, 2, 3] zw2 zw0 zw2 zw5 zw4 rfl rfl
 rintro ⟨⟨k, z⟩, hk⟩
 simp only at hk ⊢
 have hcl := choM_len p.pure tc k
 apply CaseB.mk <;> intro g
 · have hkt : k < tc.length := by simpa using g
   have hw := e_succ k _ hkt (by omega)
   obtain ⟨ok, hr, _, hsm⟩ := replayP_at hs k
   refine stop_idx encInt tabOk rfl rfl rfl rfl rfl ⟨rfl, rfl⟩ z38 k rfl z45 (fun ad => ?_)
   refine draw_cut { u : StateH × Sl × List Int // u.1.pure = stAt p.pure tc k } (fun u => .mk [(1, .v (q.val tc.length)), (2, .p 0 0), (8, .v (z.val (choM p.pure tc k).length)), (9, .v (.int .i64 (k : Int))), (10, .v (.int .i64 tc[k])), (11, .p 2 0), (21, .v (q.val tc.length)), (22, .v (.int .i64 (tc.length : Int))), (23, .v (.int .i64 (k : Int)))] 3 0 [(0, 26, 5), (2, 37, 10)] [((0, 0), .v (p.h0.val p.sems.length)), ((0, 1), .v (p.h1.val p.groups.length)), ((0, 2), .v (p.h2.val p.barriers.length)), ((0, 3), .v (p.h3.val p.rooms.length)), ((0, 4), .v (p.h4.val p.threads.length)), ((2, 0), .v (u.1.1.h0.val u.1.1.places.length)), ((2, 1), .v (u.1.1.h1.val u.1.1.status.length)), ((2, 2), .v (u.1.1.h2.val u.1.1.sems.length)), ((2, 3), .v (u.1.1.h3.val u.1.1.onces.length)), ((2, 4), .v (u.1.1.h4.val u.1.1.groups.length)), ((2, 5), .v (u.1.1.h5.val u.1.1.barriers.length)), ((2, 6), .v (u.1.1.h6.val u.1.1.chans.length)), ((2, 7), .v (u.1.1.h7.val u.1.1.said.length)), ((2, 8), .v (.int .i64 u.1.1.fault)), ((2, 9), .v (u.1.2.1.val u.1.2.2.length))] [fO (stateO u.1.1), own z 3 cInt 1 (choM p.pure tc k), fR (progO p), slo q cInt 1 tc]) ?_ ?_
   · refine draw_start tabOk z97 z97 z97 200 [((0, 0), .v (p.h0.val p.sems.length)), ((0, 1), .v (p.h1.val p.groups.length)), ((0, 2), .v (p.h2.val p.barriers.length)), ((0, 3), .v (p.h3.val p.rooms.length)), ((0, 4), .v (p.h4.val p.threads.length))] [2] [_] z113 z130 ⟨rfl, trivial⟩ rfl ?_
     refine d_cut (ti := tiOf tab) tabOk rfl rfl rfl rfl ⟨rfl, rfl⟩ rfl rfl z38 (0) (k) ((tc.take k)).length rfl rfl z45 z45 z45 ?_
     refine BothW.mk ?_ ?_
     all_goals
       refine d_call _ cl56 rfl rfl rfl rfl ⟨rfl, rfl⟩ (fun A w hW => replay_c p (q.cut 0 1) (tc.take k) w ⟨hW.get 1 rfl (.refl _), atCut encInt 0 k (by omega) (by omega) (by simp) (hW.rd 2 rfl), trivial⟩ hp) ?_
       rintro v L ⟨y2, z2, tr2, b2, rfl, hb3, hb4, rfl⟩
       rw [hr] at hb3 hb4
       have hy2 := Option.some.inj (hb4 (hb3.2 rfl))
       refine ⟨⟨(y2, z2, tr2), hy2.symm⟩, ?_⟩
       exact weak_mk [0, 2, 3, 4] zw2 zw0 zw2 zw5 zw4 rfl rfl
   rintro ⟨⟨y2, z2, tr2⟩, hy2⟩
   simp only at hy2 ⊢
   rw [← hy2] at hsm
   have hsb : y2.status.length ≤ 1048576 := hsm.2.1
   refine stop_call _ cl58 rfl rfl rfl rfl ⟨rfl, rfl⟩ (fun A w hW => ready_c y2 w ⟨hW.get 0 rfl (.O_R fun _ h => h), trivial⟩ hsb) ?_
   rintro v L ⟨yr, rfl, rfl⟩
   have hrl : (readyM y2.pure).length ≤ y2.pure.status.length := readyM_len _
   have hsb2 : y2.pure.status.length ≤ 1048576 := hsm.2.1
   have hnx : choM p.pure tc (k + 1) = choM p.pure tc k ++ [atM (readyM y2.pure) tc[k]] := by rw [choM_succ _ _ hkt, hy2]
   refine stop_call _ cl57 rfl rfl rfl rfl ⟨rfl, rfl⟩ (fun A w hW => index_c yr (readyM y2.pure) _ w ⟨hW.rdOwn 0 rfl, trivial⟩ (by omega)) ?_
   rintro v L ⟨rfl, rfl⟩
   refine AllSl.mk fun b3 => ?_
   refine stop_app encInt 3 tabOk (xs := choM p.pure tc k) (ys := [atM (readyM y2.pure) tc[k]]) rfl rfl rfl rfl rfl rfl rfl rfl rfl (by decide) ⟨rfl, rfl⟩ rfl z38 z45 z45 (fun z3 => ?_)
   refine ⟨⟨(k + 1, z3), hkt⟩, ?_, by simp only; omega⟩
   refine weak_mk [0, 4, 5] ?_ ?_ ?_ ?_ ?_ rfl rfl
   · exact zw22
   · exact zw0
   · exact zw22
   · exact zw5
   · repeat (first | exact trivial | refine ⟨.inl ⟨_, rfl, (by first | rfl | ((first | exact congrArg (fun z => SV.v (Value.int .i64 z)) hw | (rw [hnx]; done) | (simp only [hnx]; done))))⟩, ?_⟩ | refine ⟨.inr z136, ?_⟩)
 have hge : tc.length ≤ k := by simpa using g
 obtain rfl : k = tc.length := by omega
 exact retw [0] ⟨z, choM p.pure tc tc.length, true, rfl, ⟨fun _ => hs, fun _ => rfl⟩, fun _ => rfl, fun e => z100, rfl⟩ z140 rfl ⟨rfl, trivial⟩ (fun _ => rfl)
set_option maxHeartbeats 16000000 in
set_option maxRecDepth 100000 in
theorem choicesS_c (p : ProgH) (q : Sl) (tc : List Int) (w : World) (h : At w [fR (progO p), slo q cInt 1 tc]) (hp : p.pure.small20) :
   Calls Tryz.prog 18 #[progV p, q.val tc.length] w (Ret w (ChoR p.pure tc)) := by
 refine calls2 Tryz.func18 rfl tabOk w _ rfl _ rfl _ h ⟨rfl, rfl, rfl, rfl, trivial⟩ _ _ (by decide) ?_
 refine stop_call _ cl53 rfl rfl rfl rfl ⟨rfl, rfl⟩ (fun A w hW => replayS_c p q tc w ⟨hW.get 0 rfl (.refl _), hW.get 1 rfl (.refl _), trivial⟩ hp) ?_
 rintro v L ⟨y, z0, m0, b, rfl, hb, rfl⟩
 refine AllSl.mk fun z1 => ?_
 apply CaseB.mk <;> intro g
 · have e : b = false := by simpa using g
   exact retw [0] ⟨z1, [], false, rfl, ⟨fun e => z100, fun h => by rw [hb.2 h] at e; cases e⟩, fun e => z100, fun _ => rfl, rfl⟩ z140 rfl ⟨rfl, trivial⟩ (fun _ => rfl)
 have e : b = true := by simpa using g
 have hs := hb.1 e
 obtain ⟨hl, n4, hin⟩ := replayP_in hs
 obtain ⟨ok, _⟩ := replayP_at hs 0
 refine stop_call _ cl46 rfl rfl rfl rfl ⟨rfl, rfl⟩ (fun A w hW => startProgS_c p w ⟨hW.get 1 rfl (.refl _), trivial⟩ (prog_small hp)) ?_
 rintro v L ⟨y0, b0, rfl, i1, i2, i3, rfl⟩
 have hst := i2 (i1.2 ok)
 refine LoopW.mk ⟨{ u : Nat × StateH × Sl // u.1 ≤ tc.length ∧ replayM p.pure (start p.pure) (tc.take u.1) = some u.2.1.pure ∧ u.2.1.pure.small20 },
   fun u => .mk [(1, .v (q.val tc.length)), (2, .p 0 0), (8, .v (u.1.2.2.val (choM p.pure tc u.1.1).length)), (9, .p 2 0), (11, .v (.int .i64 (u.1.1 : Int)))] 3 0 [(0, 26, 5), (2, 35, 9)] [((0, 0), .v (p.h0.val p.sems.length)), ((0, 1), .v (p.h1.val p.groups.length)), ((0, 2), .v (p.h2.val p.barriers.length)), ((0, 3), .v (p.h3.val p.rooms.length)), ((0, 4), .v (p.h4.val p.threads.length)), ((2, 0), .v (u.1.2.1.h0.val u.1.2.1.places.length)), ((2, 1), .v (u.1.2.1.h1.val u.1.2.1.status.length)), ((2, 2), .v (u.1.2.1.h2.val u.1.2.1.sems.length)), ((2, 3), .v (u.1.2.1.h3.val u.1.2.1.onces.length)), ((2, 4), .v (u.1.2.1.h4.val u.1.2.1.groups.length)), ((2, 5), .v (u.1.2.1.h5.val u.1.2.1.barriers.length)), ((2, 6), .v (u.1.2.1.h6.val u.1.2.1.chans.length)), ((2, 7), .v (u.1.2.1.h7.val u.1.2.1.said.length)), ((2, 8), .v (.int .i64 u.1.2.1.fault))] [fN (stateO u.1.2.1), own u.1.2.2 3 cInt 1 (choM p.pure tc u.1.1), fR (progO p), slo q cInt 1 tc],
   fun u => tc.length - u.1.1, ⟨(0, y0, z1), Nat.zero_le _, by simp [replayM, hst], by rw [hst]; exact start_small ok⟩, ?_, ?_⟩
 · refine weak_shift (Shift.packK (G := stateO y0) 0 rfl) ?_
   exact weak_mk [0, 1, 2, 3] zw2 zw0 zw2 zw5 zw4 rfl rfl
 rintro ⟨⟨k, yS, z⟩, hk, hy, hys⟩
 simp only at hk hy hys ⊢
 have hcl := choM_len p.pure tc k
 apply CaseB.mk <;> intro g
 · have hkt : k < tc.length := by simpa using g
   have hw := e_succ k _ hkt (by omega)
   obtain ⟨_, hr, hr2, _⟩ := replayP_at hs k
   have hy2 : yS.pure = stAt p.pure tc k := Option.some.inj (hy.symm.trans hr2)
   have hsb : yS.status.length ≤ 1048576 := hys.2.1
   have hrl : (readyM yS.pure).length ≤ yS.pure.status.length := readyM_len _
   have hsb2 : yS.pure.status.length ≤ 1048576 := hys.2.1
   have hnx : choM p.pure tc (k + 1) = choM p.pure tc k ++ [atM (readyM yS.pure) tc[k]] := by rw [choM_succ _ _ hkt, hy2]
   obtain ⟨t, ht⟩ : ∃ t, t = tc[k] := ⟨_, rfl⟩
   rw [← ht] at hnx
   have hsp : tc.take (k + 1) = tc.take k ++ [t] := by rw [ht]; exact List.take_succ_eq_append_getElem hkt
   refine draw_start tabOk z97 z97 z97 200 [((2, 0), .v (yS.h0.val yS.places.length)), ((2, 1), .v (yS.h1.val yS.status.length)), ((2, 2), .v (yS.h2.val yS.sems.length)), ((2, 3), .v (yS.h3.val yS.onces.length)), ((2, 4), .v (yS.h4.val yS.groups.length)), ((2, 5), .v (yS.h5.val yS.barriers.length)), ((2, 6), .v (yS.h6.val yS.chans.length)), ((2, 7), .v (yS.h7.val yS.said.length)), ((2, 8), .v (.int .i64 yS.fault))] [3] [_] z105 z115 ⟨rfl, trivial⟩ rfl ?_
   refine d_idx (ti := tiOf tab) encInt tabOk rfl rfl rfl rfl rfl ⟨rfl, rfl⟩ z38 k rfl z45 (fun ad => ?_)
   rw [← ht]
   refine d_call _ cl47 rfl rfl rfl rfl ⟨rfl, rfl⟩ (fun A w hW => readyS_c yS w ⟨hW.get 0 rfl (fN_fR _), trivial⟩ hsb) ?_
   rintro v L ⟨yr, rfl, rfl⟩
   refine d_call _ cl54 rfl rfl rfl rfl ⟨rfl, rfl⟩ (fun A w hW => l2At_c yr (readyM yS.pure) t w ⟨hW.rdOwn 0 rfl, trivial⟩ (by omega)) ?_
   rintro v L ⟨rfl, rfl⟩
   refine AllSl.mk fun b3 => ?_
   refine d_app (ti := tiOf tab) encInt 3 tabOk (xs := choM p.pure tc k) (ys := [atM (readyM yS.pure) t]) rfl rfl rfl rfl rfl rfl rfl rfl rfl (by decide) ⟨rfl, rfl⟩ rfl z38 z45 z45 z95 (fun z3 => ?_)
   rw [← hnx]
   refine draw_cut { u : StateH // u.pure = doM p.pure yS.pure t } (fun u => .mk [(1, .v (q.val tc.length)), (2, .p 0 0), (8, .v (z3.val (choM p.pure tc (k + 1)).length)), (9, .p 2 0), (11, .v (.int .i64 (k : Int)))] 3 0 [(0, 26, 5), (2, 35, 9)] [((0, 0), .v (p.h0.val p.sems.length)), ((0, 1), .v (p.h1.val p.groups.length)), ((0, 2), .v (p.h2.val p.barriers.length)), ((0, 3), .v (p.h3.val p.rooms.length)), ((0, 4), .v (p.h4.val p.threads.length)), ((2, 0), .v (u.1.h0.val u.1.places.length)), ((2, 1), .v (u.1.h1.val u.1.status.length)), ((2, 2), .v (u.1.h2.val u.1.sems.length)), ((2, 3), .v (u.1.h3.val u.1.onces.length)), ((2, 4), .v (u.1.h4.val u.1.groups.length)), ((2, 5), .v (u.1.h5.val u.1.barriers.length)), ((2, 6), .v (u.1.h6.val u.1.chans.length)), ((2, 7), .v (u.1.h7.val u.1.said.length)), ((2, 8), .v (.int .i64 u.1.fault))] [fN (stateO u.1), own z3 3 cInt 1 (choM p.pure tc (k + 1)), fR (progO p), slo q cInt 1 tc]) ?_ ?_
   · refine draw_start tabOk z97 z97 z97 200 [((0, 0), .v (p.h0.val p.sems.length)), ((0, 1), .v (p.h1.val p.groups.length)), ((0, 2), .v (p.h2.val p.barriers.length)), ((0, 3), .v (p.h3.val p.rooms.length)), ((0, 4), .v (p.h4.val p.threads.length))] [5] [_] z113 z130 ⟨rfl, trivial⟩ rfl ?_
     refine d_idx (ti := tiOf tab) encInt tabOk rfl rfl rfl rfl rfl ⟨rfl, rfl⟩ z38 k rfl z45 (fun ad2 => ?_)
     rw [← ht]
     refine d_call _ cl29 rfl rfl rfl rfl ⟨rfl, rfl⟩ (fun A w hW => stepThreadS_c p yS t w ⟨hW.get 4 rfl (.refl _), hW.get 3 rfl (fN_fR _), trivial⟩ hp hys) ?_
     rintro v L ⟨y3, b2, rfl, j1, j2, j3, rfl⟩
     have hso : StepOk p.pure yS.pure t := by
       obtain ⟨_, _, hr3, _⟩ := replayP_at hs (k + 1)
       rw [hsp, replayM_snoc, hy] at hr3
       simp only at hr3
       split at hr3
       · assumption
       · cases hr3
     refine ⟨⟨y3, j2 (j1.2 hso)⟩, ?_⟩
     exact weak_mk [0, 1, 5, 6] zw2 zw0 zw2 zw5 zw4 rfl rfl
   rintro ⟨y3, hy3⟩
   simp only at hy3 ⊢
   have hnext : replayM p.pure (start p.pure) (tc.take (k + 1)) = some y3.pure := by
     obtain ⟨_, _, hr3, _⟩ := replayP_at hs (k + 1)
     rw [hsp, replayM_snoc, hy] at hr3
     rw [hsp, replayM_snoc, hy]
     simp only at hr3 ⊢
     split
     · rw [hy3]
     · rename_i hn; rw [if_neg hn] at hr3; cases hr3
   refine ⟨⟨(k + 1, y3, z3), hkt, hnext, replayM_small (start_small ok) hnext⟩, ?_, by simp only; omega⟩
   exact weak_mk [0, 1, 2, 3] zw1 zw0 zw1 zw5 zw3 rfl rfl
 have hge : tc.length ≤ k := by simpa using g
 obtain rfl : k = tc.length := by omega
 exact retw [1] ⟨z, choM p.pure tc tc.length, true, rfl, ⟨fun _ => hs, fun _ => rfl⟩, fun _ => rfl, fun e => z100, rfl⟩ z140 rfl ⟨rfl, trivial⟩ (fun _ => rfl)
theorem choice_one (p : Prog) (tc : List Int) : ∃ (A : List Int) (b : Bool), A.length ≤ 1048576 ∧ ∀ (xs : List Int) (c : Bool), (c = true ↔ (replayP p tc).isSome = true) → (c = true → xs = choM p tc tc.length) → (c = false → xs = []) → xs = A ∧ c = b := by
 by_cases h : (replayP p tc).isSome = true
 · refine ⟨choM p tc tc.length, true, ?_, fun xs c h1 h2 _ => ⟨h2 (h1.2 h), h1.2 h⟩⟩
   rw [choM_len]
   have := (replayP_in h).1
   omega
 · refine ⟨[], false, by simp, fun xs c h1 _ h3 => ?_⟩
   have e : c = false := by
     cases c with
     | false => rfl
     | true => exact absurd (h1.1 rfl) h
   exact ⟨h3 e, e⟩
set_option maxHeartbeats 16000000 in
set_option maxRecDepth 100000 in
theorem exactChoicesOf_c (p : ProgH) (i : Sl) (tc : List Int) (w : World) (h : At w [fR (progO p), slo i cInt 1 tc]) :
   Calls Tryz.prog 5 #[progV p, i.val tc.length] w (Ret w fun v L => v = .bool true ∧ L = []) := by
 refine calls2 Tryz.func5 rfl tabOk w _ rfl _ rfl _ h ⟨rfl, rfl, rfl, rfl, trivial⟩ _ _ (by decide) ?_
 refine CaseB.mk (fun _ => ?_) (fun hz => ?_)
 · exact ret0 ⟨rfl, rfl⟩ (fun _ => rfl)
 have htc : tc.length ≤ 1048576 := by have := of_decide_eq_false hz; omega
 refine stop_call _ cl17 rfl rfl rfl rfl ⟨rfl, rfl⟩ (fun A w hW => ret_abs (szProg_c p 1048576 w ⟨hW.get 0 rfl (.refl _), trivial⟩ (by omega) (by omega))) ?_
 rintro v L ⟨l0, e0, rfl, rfl⟩
 refine CaseB.mk (fun _ => ?_) (fun hz => ?_)
 · exact ret0 ⟨rfl, rfl⟩ (fun _ => rfl)
 have hz0 : ¬ l0 < 0 := by simpa using hz
 obtain ⟨ha, _⟩ := szProgM_gen p.pure 1048576 (by omega) (by rw [← e0]; exact hz0)
 obtain ⟨A, bb, hA, one⟩ := choice_one p.pure tc
 refine stop_call _ cl19 rfl rfl rfl rfl ⟨rfl, rfl⟩ (fun A w hW => toProg_c p w ⟨hW.get 0 rfl (.refl _), trivial⟩ ha) ?_
 rintro v L ⟨y0, rfl, p0, rfl⟩
 refine stop_call _ cl20 rfl rfl rfl rfl ⟨rfl, rfl⟩ (fun A w hW => toIntS_c i tc w ⟨hW.get 2 rfl (.refl _), trivial⟩ htc) ?_
 rintro v L ⟨z0, rfl, rfl⟩
 refine stop_call _ cl18 rfl rfl rfl rfl ⟨rfl, rfl⟩ (fun A w hW => choicesS_c y0 z0 tc w ⟨hW.get 1 rfl (.O_R fun _ h => h), hW.rdOwn 0 rfl, trivial⟩ (by rw [p0]; exact ha)) ?_
 rintro v L ⟨yw, B, bw, rfl, i1, i2, i3, rfl⟩
 rw [p0] at i1 i2
 obtain ⟨rfl, rfl⟩ := one B bw i1 i2 i3
 refine stop_call _ cl19 rfl rfl rfl rfl ⟨rfl, rfl⟩ (fun A w hW => toProg_c p w ⟨hW.get 3 rfl (.refl _), trivial⟩ ha) ?_
 rintro v L ⟨x0, rfl, q0, rfl⟩
 refine stop_call _ cl20 rfl rfl rfl rfl ⟨rfl, rfl⟩ (fun A w hW => toIntS_c i tc w ⟨hW.get 5 rfl (.refl _), trivial⟩ htc) ?_
 rintro v L ⟨x1, rfl, rfl⟩
 refine stop_call _ cl21 rfl rfl rfl rfl ⟨rfl, rfl⟩ (fun A w hW => choices_c x0 x1 tc w ⟨hW.get 1 rfl (.O_R fun _ h => h), hW.rdOwn 0 rfl, trivial⟩ (by rw [q0]; exact ha)) ?_
 rintro v L ⟨yg, C, bg, rfl, j1, j2, j3, rfl⟩
 rw [q0] at j1 j2
 obtain ⟨e1, e2⟩ := one C bg j1 j2 j3
 obtain rfl : C = B := e1
 obtain rfl : bg = bw := e2
 clear i1 i2 i3 j1 j2 j3
 refine stop_call _ cl22 rfl rfl rfl rfl ⟨rfl, rfl⟩ (fun A w hW => (eqIntS_c yg yw C C w ⟨hW.rdOwn 0 rfl, hW.rdOwn 3 rfl, trivial⟩ (by omega) (by omega))) ?_
 rintro v L ⟨rfl, rfl⟩
 refine CaseB.mk (fun g => by simp at g) (fun _ => ?_)
 refine CaseB.mk (fun g => by simp at g) (fun _ => ?_)
 refine draw_start tabOk z97 z97 z97 200 [((0, 0), .v (p.h0.val p.sems.length)), ((0, 1), .v (p.h1.val p.groups.length)), ((0, 2), .v (p.h2.val p.barriers.length)), ((0, 3), .v (p.h3.val p.rooms.length)), ((0, 4), .v (p.h4.val p.threads.length)), ((1, 0), .v (x0.h0.val x0.sems.length)), ((1, 1), .v (x0.h1.val x0.groups.length)), ((1, 2), .v (x0.h2.val x0.barriers.length)), ((1, 3), .v (x0.h3.val x0.rooms.length)), ((1, 4), .v (x0.h4.val x0.threads.length))] [] [] z103 z114 trivial rfl ?_
 refine d_call _ cl19 rfl rfl rfl rfl ⟨rfl, rfl⟩ (fun A w hW => toProg_c p w ⟨hW.get 6 rfl (.refl _), trivial⟩ ha) ?_
 rintro v L ⟨z0, rfl, r0, rfl⟩
 refine d_call _ cl23 rfl rfl rfl rfl ⟨rfl, rfl⟩ (fun A w hW => eqProg_c x0 z0 w ⟨hW.get 3 rfl (.O_R fun _ h => h), hW.get 0 rfl (.O_R fun _ h => h), trivial⟩ (by rw [q0]; exact ha) (by rw [r0]; exact ha)) ?_
 rintro v L ⟨rfl, rfl⟩
 refine CaseB.mk (fun g => by simp [q0, r0] at g) (fun _ => ?_)
 refine stop_call _ cl20 rfl rfl rfl rfl ⟨rfl, rfl⟩ (fun A w hW => toIntS_c i tc w ⟨hW.get 8 rfl (.refl _), trivial⟩ htc) ?_
 rintro v L ⟨x2, rfl, rfl⟩
 refine stop_call _ cl22 rfl rfl rfl rfl ⟨rfl, rfl⟩ (fun A w hW => (eqIntS_c x1 x2 tc tc w ⟨hW.rdOwn 3 rfl, hW.rdOwn 0 rfl, trivial⟩ (by omega) (by omega))) ?_
 rintro v L ⟨rfl, rfl⟩
 refine CaseB.mk (fun g => by simp at g) (fun _ => ?_)
 have hx0 : x0.pure.small20 := by rw [q0]; exact ha
 have hk := atProg4_le x0 1 hx0
 refine stop_callG _ [4] (G := [_]) cl24 rfl rfl rfl rfl ⟨rfl, rfl⟩ ⟨rfl, trivial⟩ ⟨rfl, rfl, trivial⟩ (fun A w hW => (markProg_c x0 1 w (hW.atG [4] (G := [_]) ⟨rfl, trivial⟩ rfl ⟨rfl, rfl, trivial⟩ [] (Fo := []) trivial rfl) hx0 (by decide))) ?_
 rintro v L ⟨rfl, rfl⟩
 generalize atProg4 1 x0 = k0 at hk ⊢
 refine stop_callG _ [4] (G := [_]) cl25 rfl rfl rfl rfl ⟨rfl, rfl⟩ ⟨rfl, trivial⟩ ⟨rfl, rfl, trivial⟩ (fun A w hW => (markIntS_c x1 tc k0 w (hW.atG [4] (G := [_]) ⟨rfl, trivial⟩ rfl ⟨rfl, rfl, trivial⟩ [] (Fo := []) trivial rfl) (by omega) (by omega))) ?_
 rintro v L ⟨rfl, rfl⟩
 refine CaseB.mk (fun g => by have g' := of_decide_eq_true g; omega) (fun _ => ?_)
 refine stop_call _ cl22 rfl rfl rfl rfl ⟨rfl, rfl⟩ (fun A w hW => (eqIntS_c yg yw C C w ⟨hW.rdOwn 4 rfl, hW.rdOwn 5 rfl, trivial⟩ (by omega) (by omega))) ?_
 rintro v L ⟨rfl, rfl⟩
 refine CaseB.mk (fun g => by simp at g) (fun _ => ?_)
 refine CaseB.mk (fun g => by simp at g) (fun _ => ?_)
 refine stop_callG _ [4] (G := [_]) cl25 rfl rfl rfl rfl ⟨rfl, rfl⟩ ⟨rfl, trivial⟩ ⟨rfl, rfl, trivial⟩ (fun A w hW => (markIntS_c yg C 1 w (hW.atG [4] (G := [_]) ⟨rfl, trivial⟩ rfl ⟨rfl, rfl, trivial⟩ [] (Fo := []) trivial rfl) (by omega) (by omega))) ?_
 rintro v L ⟨rfl, rfl⟩
 refine stop_call _ cl26 rfl rfl rfl rfl ⟨rfl, rfl⟩ (fun A w hW => (heldIntS_n yg 1 C.length w ⟨hW.rdOwn 0 rfl, trivial⟩ (by omega) (by omega))) ?_
 rintro v L ⟨rfl, rfl⟩
 refine CaseB.mk (fun g => by have g' := of_decide_eq_true g; omega) (fun _ => ?_)
 refine CaseB.mk (fun g => by simp at g) (fun _ => ?_)
 refine stop_call _ cl19 rfl rfl rfl rfl ⟨rfl, rfl⟩ (fun A w hW => toProg_c p w ⟨hW.get 8 rfl (.refl _), trivial⟩ ha) ?_
 rintro v L ⟨p2, rfl, t0, rfl⟩
 refine stop_call _ cl20 rfl rfl rfl rfl ⟨rfl, rfl⟩ (fun A w hW => toIntS_c i tc w ⟨hW.get 10 rfl (.refl _), trivial⟩ htc) ?_
 rintro v L ⟨x3, rfl, rfl⟩
 refine stop_call _ cl21 rfl rfl rfl rfl ⟨rfl, rfl⟩ (fun A w hW => choices_c p2 x3 tc w ⟨hW.get 1 rfl (.O_R fun _ h => h), hW.rdOwn 0 rfl, trivial⟩ (by rw [t0]; exact ha)) ?_
 rintro v L ⟨yh, D, bh, rfl, k1, k2, k3, rfl⟩
 rw [t0] at k1 k2
 obtain ⟨e1, e2⟩ := one D bh k1 k2 k3
 obtain rfl : D = C := e1
 obtain rfl : bh = bg := e2
 clear k1 k2 k3
 refine stop_call _ cl22 rfl rfl rfl rfl ⟨rfl, rfl⟩ (fun A w hW => (eqIntS_c yh yw D D w ⟨hW.rdOwn 0 rfl, hW.rdOwn 8 rfl, trivial⟩ (by omega) (by omega))) ?_
 rintro v L ⟨rfl, rfl⟩
 refine CaseB.mk (fun g => by simp at g) (fun _ => ?_)
 refine CaseB.mk (fun g => by simp at g) (fun _ => ?_)
 refine stop_call _ cl26 rfl rfl rfl rfl ⟨rfl, rfl⟩ (fun A w hW => (heldIntS_n yg 1 D.length w ⟨hW.rdOwn 3 rfl, trivial⟩ (by omega) (by omega))) ?_
 rintro v L ⟨rfl, rfl⟩
 refine CaseB.mk (fun g => by have g' := of_decide_eq_true g; omega) (fun _ => ?_)
 refine CaseB.mk (fun g => by simp at g) (fun _ => ?_)
 exact ret0 ⟨rfl, rfl⟩ (fun _ => rfl)
end Go.Proofs.YtijmjecehppbfaaGreat
namespace Go.Sx
open Go Go.RowKit Go.ChangeShapes Go.WideShapes
theorem trodAll_below {H : Type} {enc : TypeId × Value → H} {P : Program} (hl : laidOutB P = true) {W W' : World} (hb : Below W.heap.size W W') (sp : Nat → Bool) : ∀ {ts : List TypeId} {vs : List Value} {ds : List (DataW H)} {ps : List MemPlace}, (∀ t ∈ ts, P.readableRec t = true ∧ t < P.types.size) →
   DataW.TrodAll enc P W 0 (fun _ => true) true ts vs ds ps → (∀ x ∈ ps, x.block < W.heap.size) → (∀ x ∈ ps, sp x.block = true) → DataW.TrodAll enc P W' 0 sp true ts vs ds ps
 | [], [], [], ps, _, h, _, _ => h
 | t :: ts, v :: vs, d :: ds, ps, hr, h, hlt, hsp => by
   obtain ⟨p, q, h1, h2, rfl⟩ := h
   have ht := hr t (by simp)
   exact ⟨p, q, WideElems.Trod_stays hl ht.1 ht.2 h1 (fun x hx => hb.same (hlt x (by simp [hx]))) (fun x hx => hsp x (by simp [hx])),
     trodAll_below hl hb sp (fun t ht => hr t (by simp [ht])) h2 (fun x hx => hlt x (by simp [hx])) (fun x hx => hsp x (by simp [hx])), rfl⟩
 | [], _ :: _, _, _, _, h, _, _ => h.elim
 | _ :: _, [], _, _, _, h, _, _ => h.elim
 | [], [], _ :: _, _, _, h, _, _ => h.elim
 | _ :: _, _ :: _, [], _, _, h, _, _ => h.elim
theorem law_post {H : Type} {enc : TypeId × Value → H} {P : Program} {f : Func} {s : ChangeSpec} {apart fresh handsOn again : Bool} {W W' : World} {args : Array Value} {ds gs : List (DataW H)} {before : List MemPlace} {tb : TypeId} {pl : List TypeId}
   (hl : laidOutB P = true) (hpl : f.params.toList = pl) (hp : pl.all (fun t => P.readableRec t && decide (t < P.types.size)) = true) (hvars : s.vars = []) (hres : f.resultTypes = #[tb]) (htb : P.underlying tb = some .bool)
   (hspec : s.fn H (ds ++ gs) = { results := [.lit (.bool true)], args := ds })
   (hW : DataW.Whole enc P f.params.toList s.vars apart W args.toList ds gs before) (hb : Below W.heap.size W W') :
   s.post enc P f apart fresh handsOn again W args (.bool true) W' := by
 have hold : ∀ p ∈ before, p.block < W.heap.size := fun p hp => by simpa using hW.lt p hp
 have hW0 := hW
 obtain ⟨pa, pv, hA, hV, hbef, hfz, hnd⟩ := hW
 have hbef' := hbef.symm; clear hbef
 rw [hvars] at hV
 obtain ⟨rfl, rfl⟩ := trodVars_none hV
 rw [List.append_nil] at hbef'
 subst hbef'
 rw [List.append_nil] at hspec
 have hp' : ∀ t ∈ f.params.toList, P.readableRec t = true ∧ t < P.types.size := fun t ht => by
   rw [hpl] at ht
   have := List.all_eq_true.1 hp t ht
   simpa using this
 have hB : ∀ (b : Nat) (sp : Nat → Bool) (hd : Bool), DataW.Trod enc P W' b sp hd tb (.bool true) (.lit (.bool true)) [] := fun b sp hd => ⟨1, by simp [DataW.trod, Value.cells, htb]⟩
 have hrl : (Value.bool true).resultList f.resultTypes.size = [.bool true] := by rw [hres]; rfl
 have hR : ∀ (b : Nat) (sp : Nat → Bool) (hd : Bool), DataW.TrodAll enc P W' b sp hd f.resultTypes.toList ((Value.bool true).resultList f.resultTypes.size) [.lit (.bool true)] [] := fun b sp hd => by
   rw [hrl, hres]; exact trodAll_mk1 (hB b sp hd)
 have hAr := fun sp h => trodAll_below hl hb sp hp' hA hold h
 have hvv : ∀ sp, DataW.TrodVars enc P W' sp s.vars ([] : List (DataW H)) [] := fun sp => by rw [hvars]; rfl
 refine ⟨ds, [], pa, [], pa, [], hW0, ?_, ?_, ?_, ?_, fun _ => ⟨?_, [.lit (.bool true)] ++ ds, [], [] ++ pa, ⟨[] ++ pa, [], trodAll_append (hAr _ (fun _ _ => rfl)) (hR _ _ _), hvv _, by simp, ?_, ?_⟩, fun p hp _ => by simpa using hp⟩⟩
 · simp only [List.append_nil, hspec]; exact hR _ _ _
 · simp only [List.append_nil, hspec]; exact hAr _ (fun p hp => by simpa using hold p hp)
 · simp only [List.append_nil, hspec]; exact hvv _
 · exact World.keptBut_mono (fun p hp => hp.elim) (hb.frame (fun _ => False))
 · intro j t r hj hv
   rw [hrl] at hv
   rw [hres] at hj
   cases j with
   | succ j => simp at hv
   | zero =>
     simp at hj hv
     subst hj; subst hv
     simp [Value.okWide, htb, Cell.okWide, Cell.ok]
 · intro b off hp
   rw [hb.frozen (hold _ (by simpa using hp))]
   exact hfz b off (by simpa using hp)
 · intro h
   simpa using hnd h
section
variable {H : Type} {enc : TypeId × Value → H} {P : Program} {W : World}
theorem cells_inv {α : Type} {el : α → List Value} {sz : Nat} (he : Enc el sz) (h0 : 0 < sz) {xs : List α} {j : Nat} {u : Value} (h : (cells el xs)[j]? = some u) : ∃ (k r : Nat) (hk : k < xs.length), j = k * sz + r ∧ (el xs[k])[r]? = some u := by
 have hlt : j < xs.length * sz := by rw [← cells_length he]; exact (List.getElem?_eq_some_iff.1 h).1
 have hk : j / sz < xs.length := Nat.div_lt_of_lt_mul (by rwa [Nat.mul_comm] at hlt)
 have hr : j % sz < sz := Nat.mod_lt _ h0
 have hj : j = j / sz * sz + j % sz := (Nat.div_add_mod' j sz).symm
 refine ⟨j / sz, j % sz, hk, hj, ?_⟩
 have hr' : j % sz < (el xs[j / sz]).length := by rw [he.len]; exact hr
 have := cells_at he hk (List.getElem?_eq_getElem hr')
 rw [← hj, h] at this
 rw [List.getElem?_eq_getElem hr', ← this]
theorem open_sl {α : Type} {el : α → List Value} {sz : Nat} (he : Enc el sz) (h0 : 0 < sz) {t e : TypeId} {fuel : Nat} {cs : List Value} {x : DataW H × List MemPlace} (ht : P.underlying t = some (.slice e)) (hc : P.cellsOf e = sz)
   (hel : ∀ n cs y, DataW.trod enc P W 0 (fun _ => true) true n e cs = some y → ∃ a : α, cs = el a)
   (h : DataW.trod enc P W 0 (fun _ => true) true fuel t cs = some x) :
   ∃ (i : Sl) (xs : List α), cs = [i.val xs.length] ∧ RdS W i sz (cells el xs) xs.length ∧ ∀ b, (fSl true i sz (cells el xs) xs.length).foot b → b < W.heap.size := by
 rcases Deep.open_slice ht h with ⟨rfl, rfl⟩ | ⟨a, len, cap, m, n, D, Pl, rfl, hb, hl, hm, hmm, rfl, hx⟩
 · exact ⟨⟨none, 0⟩, [], rfl, ⟨by simp [cells], by simp, by simp [maxLen], fun h => by simp at h⟩, fun b hb => by have := hb.1; simp at this⟩
 · rw [hc] at hx
   have hlm : len ≤ m := by rw [hmm]; simp; omega
   have hone : ∀ i, i < len → ∃ y : α, ∀ r u, (el y)[r]? = some u → W.cell? (a.add (i * sz + r)) = some u := fun i hi => by
     obtain ⟨cs', h1, h2⟩ := hx i (by omega)
     obtain ⟨y, rfl⟩ := hel _ _ _ h2
     obtain ⟨_, g1, g2⟩ := World.cells?_some h1
     refine ⟨y, fun r u hu => ?_⟩
     have hr : r < sz := by rw [← g1]; exact (List.getElem?_eq_some_iff.1 hu).1
     have := g2 r hr
     rw [addr_add_add, hu] at this
     exact this
   rcases Nat.eq_zero_or_pos len with hz | hz
   · subst hz
     exact ⟨⟨some a, cap⟩, [], rfl, ⟨by simp [cells], by simp, hm, fun h => by simp at h⟩, fun b hb => by have := hb.1; simp at this⟩
   · have : Inhabited α := ⟨(hone 0 hz).choose⟩
     obtain ⟨X, hX⟩ := Deep.choose_lt hone
     have hlen : ((List.range len).map X).length = len := by simp
     refine ⟨⟨some a, cap⟩, (List.range len).map X, by rw [hlen]; rfl, ⟨by rw [cells_length he], by rw [hlen]; exact hl, hm, fun _ => ⟨a, rfl, fun j u hu => ?_⟩⟩, ?_⟩
     · obtain ⟨k, r, hk, rfl, hu'⟩ := cells_inv he h0 hu
       have hk' : k < len := by simpa using hk
       exact hX k hk' r u (by simpa using hu')
     · rintro b ⟨_, ad, had, rfl⟩
       injection had with had
       subst had
       have hr : 0 < (el (X 0)).length := by rw [he.len]; exact h0
       have hc0 := hX 0 hz 0 _ (List.getElem?_eq_getElem hr)
       unfold World.cell? at hc0
       rw [block_add] at hc0
       cases hh : W.heap[a.block]? with
       | none => rw [hh] at hc0; simp at hc0
       | some o => exact (Array.getElem?_eq_some_iff.1 hh).1
theorem trod_fields {t : TypeId} {sp : Nat → Bool} {hd : Bool} {b fuel sz : Nat} {cs : List Value} {x : DataW H × List MemPlace} {l : List (TypeId × Nat × Nat)} (hS : P.underlying t = some (.struct (P.fieldsOf t)))
   (hF : (P.fieldsOf t).toList.map (fun f => (f.type, f.offset, P.cellsOf f.type)) = l) (hsz : P.cellsOf t = sz) (h : DataW.trod enc P W b sp hd fuel t cs = some x) :
   cs.length = sz ∧ ∃ n, ∀ (j : Nat) (ty : TypeId) (off c : Nat), l[j]? = some (ty, off, c) → ∃ y, DataW.trod enc P W b sp hd n ty ((cs.drop off).take c) = some y := by
 obtain ⟨xs, n, _, _, hl, hn, hf⟩ := DataW.trod_struct hS h
 refine ⟨hl.trans hsz, n, fun j ty off c hj => ?_⟩
 rw [← hF, List.getElem?_map] at hj
 cases hfj : (P.fieldsOf t).toList[j]? with
 | none => rw [hfj] at hj; simp at hj
 | some f =>
   rw [hfj] at hj
   simp only [Option.map_some, Option.some.injEq, Prod.mk.injEq] at hj
   obtain ⟨rfl, rfl, rfl⟩ := hj
   have hfj' : (P.fieldsOf t)[j]? = some f := by simpa using hfj
   have := hf j f hfj'
   have hlt : j < xs.length := by rw [hn]; exact (Array.getElem?_eq_some_iff.1 hfj').1
   rw [List.getElem?_eq_getElem hlt] at this
   exact ⟨_, this⟩
theorem val_slice {base : Nat} {t e : TypeId} {r : Reach} {v : Value} {i : Sl} {n : Nat} (ht : P.underlying t = some (.slice e)) (hv : Value.okWide P W r base t v) (h : v.cells.toList = [i.val n]) : v = i.val n := by
 obtain ⟨a, len, cap, rfl⟩ := okWide_slice ht hv
 simpa [Value.cells] using h
end
end Go.Sx
namespace Go.Proofs.YtijmjecehppbfaaGreat
open Go Go.Sx Go.RowKit Go.ChangeShapes Go.WideShapes
theorem ownNone : ownKnob Tryz.prog.godebug = none := by kernel_rfl
theorem laidOut : laidOutB Tryz.prog = true := by kernel_rfl
theorem undBool : Tryz.prog.underlying 4 = some .bool := by kernel_rfl
end Go.Proofs.YtijmjecehppbfaaGreat
namespace Go.Sx
open Go Go.RowKit Go.ChangeShapes Go.WideShapes
def AllR (W : World) (G : List Fct) : Prop := ∀ f ∈ G, f.aged.P W ∧ ∀ b, f.aged.foot b → b < W.heap.size
theorem AllR.nil (W : World) : AllR W [] := fun _ h => by cases h
theorem AllR.cons {W : World} {f : Fct} {G : List Fct} (h : f.aged.P W ∧ ∀ b, f.aged.foot b → b < W.heap.size) (k : AllR W G) : AllR W (f :: G) := fun g hg => by
 rcases List.mem_cons.1 hg with rfl | hg
 · exact h
 · exact k g hg
theorem AllR.append {W : World} {G H : List Fct} (h : AllR W G) (k : AllR W H) : AllR W (G ++ H) := fun g hg => by
 rcases List.mem_append.1 hg with hg | hg
 · exact h g hg
 · exact k g hg
theorem AllR.flat {W : World} {α : Type} {xs : List α} {inner : α → List Fct} (h : ∀ x ∈ xs, AllR W (inner x)) : AllR W (xs.flatMap inner) := fun g hg => by
 obtain ⟨x, hx, hg⟩ := List.mem_flatMap.1 hg
 exact h x hx g hg
theorem AllR.at {W : World} {G : List Fct} (h : AllR W G) : (fR G).P W ∧ ∀ b, (fR G).foot b → b < W.heap.size := by
 refine ⟨fun g hg => ?_, ?_⟩
 · obtain ⟨f, hf, rfl⟩ := List.mem_map.1 hg
   exact (h f hf).1
 · rintro b ⟨g, hg, hb⟩
   obtain ⟨f, hf, rfl⟩ := List.mem_map.1 hg
   exact (h f hf).2 b hb
section
variable {H : Type} {enc : TypeId × Value → H} {P : Program} {W : World}
theorem open_slQ {α : Type} {el : α → List Value} {sz : Nat} {Q : α → Prop} (he : Enc el sz) (h0 : 0 < sz) {t e : TypeId} {fuel : Nat} {cs : List Value} {x : DataW H × List MemPlace} (ht : P.underlying t = some (.slice e)) (hc : P.cellsOf e = sz)
   (hel : ∀ n cs y, DataW.trod enc P W 0 (fun _ => true) true n e cs = some y → ∃ a : α, cs = el a ∧ Q a)
   (h : DataW.trod enc P W 0 (fun _ => true) true fuel t cs = some x) :
   ∃ (i : Sl) (xs : List α), cs = [i.val xs.length] ∧ RdS W i sz (cells el xs) xs.length ∧ (∀ b, (fSl true i sz (cells el xs) xs.length).foot b → b < W.heap.size) ∧ ∀ x ∈ xs, Q x := by
 rcases Deep.open_slice ht h with ⟨rfl, rfl⟩ | ⟨a, len, cap, m, n, D, Pl, rfl, hb, hl, hm, hmm, rfl, hx⟩
 · exact ⟨⟨none, 0⟩, [], rfl, ⟨by simp [cells], by simp, by simp [maxLen], fun h => by simp at h⟩, fun b hb => by have := hb.1; simp at this, by simp⟩
 · rw [hc] at hx
   have hlm : len ≤ m := by rw [hmm]; simp; omega
   have hone : ∀ i, i < len → ∃ y : α, (∀ r u, (el y)[r]? = some u → W.cell? (a.add (i * sz + r)) = some u) ∧ Q y := fun i hi => by
     obtain ⟨cs', h1, h2⟩ := hx i (by omega)
     obtain ⟨y, rfl, hq⟩ := hel _ _ _ h2
     obtain ⟨_, g1, g2⟩ := World.cells?_some h1
     refine ⟨y, fun r u hu => ?_, hq⟩
     have hr : r < sz := by rw [← g1]; exact (List.getElem?_eq_some_iff.1 hu).1
     have := g2 r hr
     rw [addr_add_add, hu] at this
     exact this
   rcases Nat.eq_zero_or_pos len with hz | hz
   · subst hz
     exact ⟨⟨some a, cap⟩, [], rfl, ⟨by simp [cells], by simp, hm, fun h => by simp at h⟩, fun b hb => by have := hb.1; simp at this, by simp⟩
   · have : Inhabited α := ⟨(hone 0 hz).choose⟩
     obtain ⟨X, hX⟩ := Deep.choose_lt hone
     have hlen : ((List.range len).map X).length = len := by simp
     refine ⟨⟨some a, cap⟩, (List.range len).map X, by rw [hlen]; rfl, ⟨by rw [cells_length he], by rw [hlen]; exact hl, hm, fun _ => ⟨a, rfl, fun j u hu => ?_⟩⟩, ?_, ?_⟩
     · obtain ⟨k, r, hk, rfl, hu'⟩ := cells_inv he h0 hu
       have hk' : k < len := by simpa using hk
       exact (hX k hk').1 r u (by simpa using hu')
     · rintro b ⟨_, ad, had, rfl⟩
       injection had with had
       subst had
       have hr : 0 < (el (X 0)).length := by rw [he.len]; exact h0
       have hc0 := (hX 0 hz).1 0 _ (List.getElem?_eq_getElem hr)
       unfold World.cell? at hc0
       rw [block_add] at hc0
       cases hh : W.heap[a.block]? with
       | none => rw [hh] at hc0; simp at hc0
       | some o => exact (Array.getElem?_eq_some_iff.1 hh).1
     · intro x hx
       obtain ⟨k, hk, rfl⟩ := List.mem_map.1 hx
       exact (hX k (by simpa using hk)).2
end
end Go.Sx
namespace Go.Proofs.YtijmjecehppbfaaGreat
open Go Go.Sx Go.RowKit Go.ChangeShapes Go.WideShapes
theorem undI : Tryz.prog.underlying 3 = some (.int .i64) := by kernel_rfl
theorem undIs : Tryz.prog.underlying 23 = some (.slice 3) := by kernel_rfl
theorem el_int {H : Type} {enc : TypeId × Value → H} {W : World} : ∀ (n : Nat) (cs : List Value) (y : DataW H × List MemPlace), DataW.trod enc Tryz.prog W 0 (fun _ => true) true n 3 cs = some y → ∃ a : Int, cs = cInt a := fun n cs y hy => by
 obtain ⟨k, h1, _, _⟩ := DataW.trod_int undI hy
 exact ⟨k, h1⟩
theorem structOp : Tryz.prog.underlying 206 = some (.struct (Tryz.prog.fieldsOf 206)) := by kernel_rfl
theorem fieldsOp : (Tryz.prog.fieldsOf 206).toList.map (fun f => (f.type, f.offset, Tryz.prog.cellsOf f.type)) = [(3, 0, 1), (3, 1, 1), (3, 2, 1)] := by kernel_rfl
theorem undOpS : Tryz.prog.underlying 161 = some (.slice 206) := by kernel_rfl
set_option maxRecDepth 100000 in
theorem el_Op {H : Type} {enc : TypeId × Value → H} {W : World} : ∀ (n : Nat) (cs : List Value) (y : DataW H × List MemPlace), DataW.trod enc Tryz.prog W 0 (fun _ => true) true n 206 cs = some y → ∃ a : Op, cs = cOp a := fun n cs y hy => by
 obtain ⟨hl, k, hx⟩ := trod_fields structOp fieldsOp (sz := 3) z97 hy
 match cs, hl with
 | [a0, a1, a2], _ =>
   obtain ⟨_, h0⟩ := hx 0 _ _ _ rfl
   obtain ⟨p0, e0⟩ := el_int _ _ _ h0
   obtain ⟨_, h1⟩ := hx 1 _ _ _ rfl
   obtain ⟨p1, e1⟩ := el_int _ _ _ h1
   obtain ⟨_, h2⟩ := hx 2 _ _ _ rfl
   obtain ⟨p2, e2⟩ := el_int _ _ _ h2
   simp [cInt] at e0 e1 e2
   exact ⟨⟨p0, p1, p2⟩, by simp [cOp, e0, e1, e2]⟩
theorem undOpSS : Tryz.prog.underlying 45 = some (.slice 161) := by kernel_rfl
theorem el_OpS {H : Type} {enc : TypeId × Value → H} {W : World} : ∀ (n : Nat) (cs : List Value) (y : DataW H × List MemPlace), DataW.trod enc Tryz.prog W 0 (fun _ => true) true n 161 cs = some y → ∃ a : OpSH, cs = cOpSH a ∧ AllR W (opSO a) := fun n cs y hy => by
 obtain ⟨i, xs, e, r, f⟩ := open_sl encOp (by decide) undOpS z97 el_Op hy
 exact ⟨⟨xs, i⟩, e, AllR.cons ⟨r, f⟩ (AllR.nil W)⟩
theorem structProg : Tryz.prog.underlying 47 = some (.struct (Tryz.prog.fieldsOf 47)) := by kernel_rfl
theorem fieldsProg : (Tryz.prog.fieldsOf 47).toList.map (fun f => (f.type, f.offset, Tryz.prog.cellsOf f.type)) = [(23, 0, 1), (23, 1, 1), (23, 2, 1), (23, 3, 1), (45, 4, 1)] := by kernel_rfl
set_option maxRecDepth 100000 in
theorem open_Prog {H : Type} {enc : TypeId × Value → H} {W : World} {base : Nat} {v : Value} {d : DataW H} {p : List MemPlace} (hv : Value.okWide Tryz.prog W .any base 47 v) (h : DataW.Trod enc Tryz.prog W 0 (fun _ => true) true 47 v d p) :
   ∃ s : ProgH, v = progV s ∧ (fR (progO s)).P W ∧ ∀ b, (fR (progO s)).foot b → b < W.heap.size := by
 obtain ⟨vs, rfl, _⟩ := okWide_struct structProg hv
 obtain ⟨fuel, hf⟩ := h
 obtain ⟨hl, k, hx⟩ := trod_fields structProg fieldsProg (sz := 5) z97 hf
 obtain ⟨cs⟩ := vs
 have hl : cs.length = 5 := hl
 match cs, hl with
 | [a0, a1, a2, a3, a4], _ =>
   obtain ⟨_, h0⟩ := hx 0 _ _ _ rfl
   obtain ⟨i0, p0, e0, r0, f0⟩ := open_sl encInt Nat.zero_lt_one undIs z97 el_int h0
   obtain ⟨_, h1⟩ := hx 1 _ _ _ rfl
   obtain ⟨i1, p1, e1, r1, f1⟩ := open_sl encInt Nat.zero_lt_one undIs z97 el_int h1
   obtain ⟨_, h2⟩ := hx 2 _ _ _ rfl
   obtain ⟨i2, p2, e2, r2, f2⟩ := open_sl encInt Nat.zero_lt_one undIs z97 el_int h2
   obtain ⟨_, h3⟩ := hx 3 _ _ _ rfl
   obtain ⟨i3, p3, e3, r3, f3⟩ := open_sl encInt Nat.zero_lt_one undIs z97 el_int h3
   obtain ⟨_, h4⟩ := hx 4 _ _ _ rfl
   obtain ⟨i4, p4, e4, r4, f4, q4⟩ := open_slQ encOpSH (by decide) undOpSS z97 el_OpS h4
   simp [Value.cells] at e0 e1 e2 e3 e4
   refine ⟨⟨p0, p1, p2, p3, p4, i0, i1, i2, i3, i4⟩, ?_, AllR.at ?_⟩
   · simp [progV, e0, e1, e2, e3, e4]
   · exact AllR.cons ⟨r0, f0⟩ (AllR.cons ⟨r1, f1⟩ (AllR.cons ⟨r2, f2⟩ (AllR.cons ⟨r3, f3⟩ ((AllR.cons ⟨r4, f4⟩ (AllR.flat q4))))))
set_option maxRecDepth 100000 in
theorem lifted_PI {f : FuncId} {fn : Func} {s : ChangeSpec} {conds : List PathCond} (hf : Tryz.checked.prog.funcs[f]? = some fn) (hfn : Tryz.checked.prog.inits.idxOf? f = none) (hpl : fn.params = #[47, 23]) (hres : fn.resultTypes = #[4]) (hvars : s.vars = [])
   (hspec : ∀ (H : Type) (d0 d1 : DataW H), s.fn H [d0, d1] = { results := [.lit (.bool true)], args := [d0, d1] })
   (hc : ∀ (x0 : ProgH) (i1 : Sl) (x1 : List Int) (w : World), At w [fR (progO x0), slo i1 cInt 1 x1] → Calls Tryz.prog f #[progV x0, i1.val x1.length] w (Ret w fun v L => v = .bool true ∧ L = []))
   (os : Os) (started : os.Started) (H : Type) (enc : TypeId × Value → H)
   (wit : ∃ (w : World) (tape : Tape) (i : Input), w.os = os ∧ (w.forCall tape i).Shaped Tryz.checked.prog ∧ i.vars = [] ∧ Input.okWide Tryz.checked.prog (w.forCall tape i) .any w.heap.size f i ∧
     s.pre6 enc Tryz.checked.prog fn conds false (w.forCall tape i).memory i.args ∧ ({} : Assume).holds Tryz.checked.prog (lone (Frame.enter Tryz.checked.prog f i.args .normal) [] (w.forCall tape i))) :
   ReturnsInHanded {} Tryz.checked os f .any (s.pre6 enc Tryz.checked.prog fn conds false) (s.post enc Tryz.checked.prog fn false true false false) := by
 refine returnsInHanded_of_change (C := Tryz.checked) ownNone started hfn hf wit ?_
 intro W base args ds gs before hval hW _ _
 have hW' := hW
 obtain ⟨p, q, hA0, hV, _, _, _⟩ := hW
 rw [hpl] at hA0
 have hA : DataW.TrodAll enc Tryz.prog W 0 (fun _ => true) true [47, 23] args.toList ds p := hA0
 obtain ⟨v0, vs0, d0, ds0, p0, q0, e0, rfl, _, h0, hA⟩ := trodAll_cons hA
 obtain ⟨v1, vs1, d1, ds1, p1, q1, rfl, rfl, _, h1, hA⟩ := trodAll_cons hA
 obtain ⟨rfl, rfl, _⟩ := trodAll_nil hA
 obtain rfl : args = #[v0, v1] := by apply Array.ext'; simpa using e0
 obtain ⟨x0, rfl, hat0⟩ := open_Prog (hval 0 47 v0 (by rw [hpl]; rfl) rfl) h0
 obtain ⟨fuel1, hf1⟩ := h1
 obtain ⟨i1, x1, e1', r1, f1⟩ := open_sl encInt Nat.zero_lt_one undIs z97 el_int hf1
 obtain rfl := val_slice undIs (hval 1 23 v1 (by rw [hpl]; rfl) rfl) e1'
 refine (hc x0 i1 x1 W ⟨hat0, ⟨r1, f1⟩, trivial⟩).mono fun e W' hR => ?_
 obtain ⟨v, L, rfl, he, _, rfl, _⟩ := hR
 rw [hvars] at hV
 obtain ⟨rfl, _⟩ := trodVars_none hV
 exact ⟨_, rfl, law_post (P := Tryz.prog) laidOut (pl := [47, 23]) (by rw [hpl]) z97 hvars hres undBool (hspec H d0 d1) hW' he.below⟩
end Go.Proofs.YtijmjecehppbfaaGreat
