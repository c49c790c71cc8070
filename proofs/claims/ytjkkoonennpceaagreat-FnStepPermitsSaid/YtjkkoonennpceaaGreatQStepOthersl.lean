/- FnStepOthers: texts that its proof stands on, part 12. -/
import Derived.Test.YtjkkoonennpceaaGreatQStepOthersk
namespace Go.Proofs.YtjkkoonennpceaaGreat
open Go Go.Sx Go.RowKit
theorem nilN {Zs G : List Fct} (k : Nat) (hk : Zs[k]? = some (fO G)) {e sz : Nat} {enc : Int → List Value} : ∃ f ∈ Zs, f.old = false ∧ Rd f (own nil4 e enc sz ([] : List Int)).aged :=
 ⟨_, List.mem_of_getElem? hk, rfl, ⟨fun w _ => (nilFact_ok (show nilFact (own nil4 e enc sz ([] : List Int)) from ⟨rfl, rfl, rfl, rfl⟩) w).1 |> own_rd, fun b hb => (nil_foot (show nilFact (own nil4 e enc sz ([] : List Int)) from ⟨rfl, rfl, rfl, rfl⟩) b hb.2).elim⟩⟩
set_option maxHeartbeats 16000000 in
set_option maxRecDepth 100000 in
theorem l7Once_c (P : ProgH) (y : StateH) (k : Nat) (op : Op) {ops : List Op} {a st : Int} (r : Rdy P.pure y.pure k ops a st op) (hk : op.kind = 4) (w : World) (h : AtG w [own y.h0 3 cInt 1 y.places, own y.h1 3 cInt 1 y.status, own y.h2 57 cSemH 3 y.sems, own y.h3 70 cOnceH 4 y.onces, own y.h4 74 cGroupH 2 y.groups, own y.h5 65 cBarrierH 3 y.barriers, own y.h6 80 cChanH 5 y.chans, own y.h7 3 cInt 1 y.said, fO (innerO y)] [fR (progO P)]) :
   Calls Tryz.prog 137 #[progV P, stateV y, .agg (cOp op).toArray, .int .i64 (k : Int)] w (RetG w [own y.h0 3 cInt 1 y.places, own y.h1 3 cInt 1 y.status, own y.h2 57 cSemH 3 y.sems, own y.h3 70 cOnceH 4 y.onces, own y.h4 74 cGroupH 2 y.groups, own y.h5 65 cBarrierH 3 y.barriers, own y.h6 80 cChanH 5 y.chans, own y.h7 3 cInt 1 y.said, fO (innerO y)] (DoR (doOp P.pure y.pure k op))) := by
 obtain ⟨e0, e1, hkt, n4, hp0⟩ := r.lens
 have lt : P.pure.threads.length = P.threads.length := by simp [ProgH.pure]
 have hnm : y.places.length = y.status.length := by rw [e0, e1]
 have hn : P.threads.length = y.places.length := e0.symm
 have hn4 : y.places.length ≤ 100 := by omega
 have hkn : 0 ≤ (k : Int) ∧ (k : Int) < (y.places.length : Int) := by omega
 have hw1 : ∀ x ∈ [(k : Int)], 0 ≤ x ∧ x < (y.places.length : Int) := fun x hx => by simp at hx; rw [hx]; exact hkn
 have hpA : ∀ a ∈ y.pure.places, 0 ≤ a ∧ a ≤ 100 := fun x hx => by have := hp0 x hx; omega
 obtain ⟨x, hx, hxa, ok, hval, hi⟩ := r.once hk
 have hil : op.on.toNat < y.onces.length := by have := (List.getElem?_eq_some_iff.1 hx).1; simpa [StateH.pure] using this
 have hxe : (y.onces[op.on.toNat]'hil).m = x := by have := hx; simp only [StateH.pure, List.getElem?_map, List.getElem?_eq_getElem hil, Option.map_some, Option.some.injEq] at this; exact this
 subst hxe
 have hnq := fun u (h : ofKey (events y.pure) u = []) => (swap_onces hx (y.onces[op.on.toNat]).m).none h
 have hq : (k : Int) ∉ (y.onces[op.on.toNat]'hil).m.waits := by simpa using (ofKey_map_nil (g := fun t : Int => t)).1 (hnq _ r.ev)
 have hst : y.pure.status.getD (k : Int).toNat 0 = st := by rw [Int.toNat_natCast, List.getD_eq_getElem?_getD, r.h3]; rfl
 have hks : k < y.status.length := by omega
 have hst2 : y.status[k] = st := (List.getElem?_eq_some_iff.1 r.h3).2
 refine callsG_fn Tryz.func137 rfl tabOk w _ rfl _ rfl _ _ h ⟨rfl, rfl, trivial⟩ _ _ rfl rfl ?_
 refine stop_idx encInt tabOk rfl rfl rfl rfl rfl ⟨rfl, rfl⟩ (rdVia 1 rfl (Rd.own (o := false) (o' := false))) k rfl z38 (fun ad6 => ?_)
 apply CaseB.mk <;> intro g
 · have h2 : st = 2 := by rw [← hst2]; simpa using g
   obtain ⟨w1, w2⟩ := r.owner hx hi h2
   obtain ⟨x1, told, hres⟩ : ∃ x1 told, (y.onces[op.on.toNat]'hil).m.finish k op.arg = (x1, told) := ⟨_, _, rfl⟩
   have hte : told = (y.onces[op.on.toNat]'hil).m.waits := by have := hres; simp only [Once.finish, Prod.mk.injEq] at this; exact this.2.symm
   have htin := (⟨hte.symm, by rw [hte]; exact onceOk_len ok⟩ : (y.onces[op.on.toNat]'hil).m.waits = told ∧ told.length ≤ 6)
   have htl : told.length ≤ 100 := by omega
   have htold : ∀ u ∈ told, 0 ≤ u ∧ u < (y.places.length : Int) := fun u hu => by
     have := r.ft.isIn fun h0 => (ofKey_map_nil (g := fun t : Int => t)).1 (hnq u h0) (by rw [← htin.1] at *; simpa using hu)
     rw [lt] at this
     omega
   have htk : ∀ u ∈ told ++ [(k : Int)], 0 ≤ u ∧ u < (y.places.length : Int) := fun u hu => by
     rcases List.mem_append.1 hu with hu | hu
     · exact htold u hu
     · exact hw1 u hu
   refine draw_start tabOk z95 z95 z95 200 [((1, 3), .v (y.h3.val y.onces.length)), ((2, 1), .v (.int .i64 op.on)), ((2, 2), .v (.int .i64 op.arg))] [3] [_] z118 z130 ⟨rfl, trivial⟩ rfl ?_
   refine d_idx (ti := tiOf tab) encOnceH tabOk rfl rfl rfl rfl rfl ⟨rfl, rfl⟩ (rdVia 0 rfl (Rd.own (o := false) (o' := false))) op.on.toNat hi.symm z38 (fun ad5 => ?_)
   refine BothW.mk ?_ ?_
   all_goals
     refine d_call _ cl151 rfl rfl rfl rfl ⟨rfl, rfl⟩ (fun A w hW => finishS_c _ _ _ _ w ⟨hW.get 8 rfl (.ofO (rdOnce y _ hil)), trivial⟩ ok w1 w2 hval) ?_
     rw [hres]
     rintro v L ⟨q1, z1, rfl, rfl⟩
     refine stop_idxW encOnceH 5 tabOk rfl rfl rfl rfl rfl ⟨rfl, rfl⟩ rfl z83 op.on.toNat hi.symm hil (fun gg hgg => ?_)
     refine stop_storeW encOnceH 5 tabOk rfl rfl rfl rfl rfl rfl rfl rfl hgg op.on.toNat 0 ⟨x1, q1⟩ rfl hil rfl (cOnceH ⟨x1, q1⟩) (fun _ => rfl) z68 ?_
     refine draw_start tabOk z95 z95 z95 200 [((0, 0), .v (P.h0.val P.sems.length)), ((0, 1), .v (P.h1.val P.groups.length)), ((0, 2), .v (P.h2.val P.barriers.length)), ((0, 3), .v (P.h3.val P.rooms.length)), ((0, 4), .v (P.h4.val P.threads.length)), ((1, 0), .v (y.h0.val y.places.length)), ((1, 1), .v (y.h1.val y.status.length)), ((1, 2), .v (y.h2.val y.sems.length)), ((1, 3), .v (y.h3.val y.onces.length)), ((1, 4), .v (y.h4.val y.groups.length)), ((1, 5), .v (y.h5.val y.barriers.length)), ((1, 6), .v (y.h6.val y.chans.length)), ((1, 7), .v ((y.h7).val (y.said).length)), ((1, 8), .v (.int .i64 y.fault))] [] [] z99 z103 trivial rfl ?_
     refine AllSl.mk fun zk => ?_
     refine d_app (ti := tiOf tab) encInt 3 tabOk (xs := told) (ys := [(k : Int)]) rfl rfl rfl rfl rfl rfl rfl rfl rfl (by decide) ⟨rfl, rfl⟩ rfl z30 z38 z38 z93 (fun z5 => ?_)
     refine d_callG _ [4, 5] (G := [_, _]) cl141 rfl rfl rfl rfl ⟨rfl, rfl⟩ ⟨rfl, rfl, trivial⟩ ⟨rfl, rfl, rfl, rfl, trivial⟩ z93 (fun A w hW => (l7On_c _ _ P y _ _ z5 (told ++ [(k : Int)]) (y.pure) w (hW.atG [4, 5] (G := [_, _]) ⟨rfl, rfl, trivial⟩ rfl ⟨rfl, rfl, rfl, rfl, trivial⟩ [12, 0] (Fo := [_, _]) z131 rfl) rfl rfl hnm hn htk z94 hpA hn4)) ?_
     rintro v L ⟨rfl, rfl⟩
     have hlp : (onM P.pure (told ++ [(k : Int)]) (y.pure)).places.length = y.places.length := ((onM_len _ _ _).1.trans rfl)
     have hls : (onM P.pure (told ++ [(k : Int)]) (y.pure)).status.length = y.status.length := ((onM_len _ _ _).2.trans rfl)
     obtain ⟨y9, hy9⟩ : ∃ y9 : StateH, y9 = ⟨(onM P.pure (told ++ [(k : Int)]) (y.pure)).places, (onM P.pure (told ++ [(k : Int)]) (y.pure)).status, y.sems, (y.onces.set op.on.toNat ⟨x1, q1⟩), y.groups, y.barriers, y.chans, y.said, y.fault, y.h0, y.h1, y.h2, y.h3, y.h4, y.h5, y.h6, y.h7⟩ := ⟨_, rfl⟩
     have hP : y9.pure = doOp P.pure y.pure k op := by
       rw [doOp, if_neg (by omega), if_neg (by omega), if_neg (by omega), if_pos hk, doOnce, hst, if_pos h2, hxa, hres]
       show _ = onM P.pure (told ++ [(k : Int)]) (setOnce y.pure op x1)
       rw [onM_eq P.pure (told ++ [(k : Int)]) y.pure (setOnce y.pure op x1) rfl rfl, hy9]
       simp only [StateH.pure, setOnce, List.map_set]
     have hv : stateV y9 = .agg #[y.h0.val y.places.length, y.h1.val y.status.length, y.h2.val y.sems.length, y.h3.val y.onces.length, y.h4.val y.groups.length, y.h5.val y.barriers.length, y.h6.val y.chans.length, (y.h7).val (y.said).length, .int .i64 y.fault] := by
       rw [hy9]; simp only [stateV, hlp, hls, List.length_set]
     refine ret_shift (Shift.pack (G := stateO y9) (stateN y9 (by rw [hy9]; exact outIn 0 1 6 4 7 8 9 10 rfl rfl rfl rfl rfl rfl rfl rfl) (by rw [hy9]; exact fun g hg => (inner_once hg).elim (fun h => inON 11 rfl h) (fun h => by obtain rfl := List.mem_singleton.1 h; exact inFN 5 rfl rfl)))) ?_
     exact retG [0] ⟨y9, hv.symm, hP, rfl⟩ z133 rfl ⟨rfl, trivial⟩ (fun _ => rfl)
 have h2 : ¬ st = 2 := by rw [← hst2]; simpa using g
 obtain ⟨x1, c1, hres⟩ : ∃ x1 c1, (y.onces[op.on.toNat]'hil).m.enter k = (x1, c1) := ⟨_, _, rfl⟩
 refine stop_idx encOnceH tabOk rfl rfl rfl rfl rfl ⟨rfl, rfl⟩ (rdVia 3 rfl (Rd.own (o := false) (o' := false))) op.on.toNat hi.symm z38 (fun ad5 => ?_)
 refine stop_call _ cl150 rfl rfl rfl rfl ⟨rfl, rfl⟩ (fun A w hW => enterS_c _ _ _ w ⟨hW.get 8 rfl (.ofO (rdOnce y _ hil)), trivial⟩ ok r.thr hq (r.stranger hx h2)) ?_
 rw [hres]
 rintro v L ⟨q1, rfl, rfl⟩
 refine stop_idxW encOnceH 4 tabOk rfl rfl rfl rfl rfl ⟨rfl, rfl⟩ rfl z83 op.on.toNat hi.symm hil (fun gg hgg => ?_)
 refine stop_storeW encOnceH 4 tabOk rfl rfl rfl rfl rfl rfl rfl rfl hgg op.on.toNat 0 ⟨x1, q1⟩ rfl hil rfl (cOnceH ⟨x1, q1⟩) (fun _ => rfl) z68 ?_
 apply CaseB.mk <;> intro g
 · have c0 : c1 = 0 := by simpa using g
   refine stop_idxW encInt 3 tabOk rfl rfl rfl rfl rfl ⟨rfl, rfl⟩ rfl rfl k rfl (by omega) (fun gs hgs => ?_)
   refine stop_storeW encInt 3 tabOk rfl rfl rfl rfl rfl rfl rfl rfl hgs k 0 2 rfl (by omega) rfl [.int .i64 2] (fun _ => rfl) rfl ?_
   have hlp : (waitM (y.pure) k 2).places.length = y.places.length := rfl
   have hls : (waitM (y.pure) k 2).status.length = y.status.length := ((List.length_set ..).trans rfl)
   obtain ⟨y9, hy9⟩ : ∃ y9 : StateH, y9 = ⟨(waitM (y.pure) k 2).places, (waitM (y.pure) k 2).status, y.sems, (y.onces.set op.on.toNat ⟨x1, q1⟩), y.groups, y.barriers, y.chans, y.said, y.fault, y.h0, y.h1, y.h2, y.h3, y.h4, y.h5, y.h6, y.h7⟩ := ⟨_, rfl⟩
   have hP : y9.pure = doOp P.pure y.pure k op := by
     rw [doOp, if_neg (by omega), if_neg (by omega), if_neg (by omega), if_pos hk, doOnce, hst, if_neg h2, hxa, hres]
     show _ = if c1 = 0 then waitM (setOnce y.pure op x1) k 2 else if c1 = 1 then waitM (setOnce y.pure op x1) k 1 else onM P.pure [(k : Int)] (setOnce y.pure op x1)
     rw [if_pos c0, hy9]
     simp only [StateH.pure, setOnce, List.map_set, waitM]
   have hv : stateV y9 = .agg #[y.h0.val y.places.length, y.h1.val y.status.length, y.h2.val y.sems.length, y.h3.val y.onces.length, y.h4.val y.groups.length, y.h5.val y.barriers.length, y.h6.val y.chans.length, (y.h7).val (y.said).length, .int .i64 y.fault] := by
     rw [hy9]; simp only [stateV, hlp, hls, List.length_set]
   refine ret_shift (Shift.pack (G := stateO y9) (stateN y9 z58 z37)) ?_
   exact retG [0] ⟨y9, hv.symm, hP, rfl⟩ z133 rfl ⟨rfl, trivial⟩ (fun _ => rfl)
 have c0 : ¬ c1 = 0 := by simpa using g
 apply CaseB.mk <;> intro g
 · have c1' : c1 = 1 := by simpa using g
   refine stop_idxW encInt 3 tabOk rfl rfl rfl rfl rfl ⟨rfl, rfl⟩ rfl rfl k rfl (by omega) (fun gs hgs => ?_)
   refine stop_storeW encInt 3 tabOk rfl rfl rfl rfl rfl rfl rfl rfl hgs k 0 1 rfl (by omega) rfl [.int .i64 1] (fun _ => rfl) rfl ?_
   have hlp : (waitM (y.pure) k 1).places.length = y.places.length := rfl
   have hls : (waitM (y.pure) k 1).status.length = y.status.length := ((List.length_set ..).trans rfl)
   obtain ⟨y9, hy9⟩ : ∃ y9 : StateH, y9 = ⟨(waitM (y.pure) k 1).places, (waitM (y.pure) k 1).status, y.sems, (y.onces.set op.on.toNat ⟨x1, q1⟩), y.groups, y.barriers, y.chans, y.said, y.fault, y.h0, y.h1, y.h2, y.h3, y.h4, y.h5, y.h6, y.h7⟩ := ⟨_, rfl⟩
   have hP : y9.pure = doOp P.pure y.pure k op := by
     rw [doOp, if_neg (by omega), if_neg (by omega), if_neg (by omega), if_pos hk, doOnce, hst, if_neg h2, hxa, hres]
     show _ = if c1 = 0 then waitM (setOnce y.pure op x1) k 2 else if c1 = 1 then waitM (setOnce y.pure op x1) k 1 else onM P.pure [(k : Int)] (setOnce y.pure op x1)
     rw [if_neg c0, if_pos c1', hy9]
     simp only [StateH.pure, setOnce, List.map_set, waitM]
   have hv : stateV y9 = .agg #[y.h0.val y.places.length, y.h1.val y.status.length, y.h2.val y.sems.length, y.h3.val y.onces.length, y.h4.val y.groups.length, y.h5.val y.barriers.length, y.h6.val y.chans.length, (y.h7).val (y.said).length, .int .i64 y.fault] := by
     rw [hy9]; simp only [stateV, hlp, hls, List.length_set]
   refine ret_shift (Shift.pack (G := stateO y9) (stateN y9 z58 z37)) ?_
   exact retG [0] ⟨y9, hv.symm, hP, rfl⟩ z133 rfl ⟨rfl, trivial⟩ (fun _ => rfl)
 have c1' : ¬ c1 = 1 := by simpa using g
 refine AllSl.mk fun zt => ?_
 refine stop_callG _ [3, 4] (G := [_, _]) cl141 rfl rfl rfl rfl ⟨rfl, rfl⟩ ⟨rfl, rfl, trivial⟩ ⟨rfl, rfl, rfl, rfl, trivial⟩ (fun A w hW => (l7On_c _ _ P y _ _ zt ([(k : Int)]) (y.pure) w (hW.atG [3, 4] (G := [_, _]) ⟨rfl, rfl, trivial⟩ rfl ⟨rfl, rfl, rfl, rfl, trivial⟩ [11, 0] (Fo := [_, _]) z131 rfl) rfl rfl hnm hn hw1 (by simp) hpA hn4)) ?_
 rintro v L ⟨rfl, rfl⟩
 have hlp : (onM P.pure ([(k : Int)]) (y.pure)).places.length = y.places.length := ((onM_len _ _ _).1.trans rfl)
 have hls : (onM P.pure ([(k : Int)]) (y.pure)).status.length = y.status.length := ((onM_len _ _ _).2.trans rfl)
 obtain ⟨y9, hy9⟩ : ∃ y9 : StateH, y9 = ⟨(onM P.pure ([(k : Int)]) (y.pure)).places, (onM P.pure ([(k : Int)]) (y.pure)).status, y.sems, (y.onces.set op.on.toNat ⟨x1, q1⟩), y.groups, y.barriers, y.chans, y.said, y.fault, y.h0, y.h1, y.h2, y.h3, y.h4, y.h5, y.h6, y.h7⟩ := ⟨_, rfl⟩
 have hP : y9.pure = doOp P.pure y.pure k op := by
   rw [doOp, if_neg (by omega), if_neg (by omega), if_neg (by omega), if_pos hk, doOnce, hst, if_neg h2, hxa, hres]
   show _ = if c1 = 0 then waitM (setOnce y.pure op x1) k 2 else if c1 = 1 then waitM (setOnce y.pure op x1) k 1 else onM P.pure [(k : Int)] (setOnce y.pure op x1)
   rw [if_neg c0, if_neg c1', onM_eq P.pure [(k : Int)] y.pure (setOnce y.pure op x1) rfl rfl, hy9]
   simp only [StateH.pure, setOnce, List.map_set]
 have hv : stateV y9 = .agg #[y.h0.val y.places.length, y.h1.val y.status.length, y.h2.val y.sems.length, y.h3.val y.onces.length, y.h4.val y.groups.length, y.h5.val y.barriers.length, y.h6.val y.chans.length, (y.h7).val (y.said).length, .int .i64 y.fault] := by
   rw [hy9]; simp only [stateV, hlp, hls, List.length_set]
 refine ret_shift (Shift.pack (G := stateO y9) (stateN y9 z59 (by rw [hy9]; exact fun g hg => (inner_once hg).elim (fun h => inON 10 rfl h) (fun h => by obtain rfl := List.mem_singleton.1 h; exact inFN 4 rfl rfl)))) ?_
 exact retG [0] ⟨y9, hv.symm, hP, rfl⟩ z133 rfl ⟨rfl, trivial⟩ (fun _ => rfl)
set_option maxHeartbeats 16000000 in
set_option maxRecDepth 100000 in
theorem l7Chan_c (P : ProgH) (y : StateH) (k : Nat) (op : Op) {ops : List Op} {a st : Int} (r : Rdy P.pure y.pure k ops a st op) (h8 : 8 ≤ op.kind) (hsd : y.said.length ≤ 64) (w : World) (h : AtG w [own y.h0 3 cInt 1 y.places, own y.h1 3 cInt 1 y.status, own y.h2 57 cSemH 3 y.sems, own y.h3 70 cOnceH 4 y.onces, own y.h4 74 cGroupH 2 y.groups, own y.h5 65 cBarrierH 3 y.barriers, own y.h6 80 cChanH 5 y.chans, own y.h7 3 cInt 1 y.said, fO (innerO y)] [fR (progO P)]) :
   Calls Tryz.prog 142 #[progV P, stateV y, .agg (cOp op).toArray, .int .i64 (k : Int)] w (RetG w [own y.h0 3 cInt 1 y.places, own y.h1 3 cInt 1 y.status, own y.h2 57 cSemH 3 y.sems, own y.h3 70 cOnceH 4 y.onces, own y.h4 74 cGroupH 2 y.groups, own y.h5 65 cBarrierH 3 y.barriers, own y.h6 80 cChanH 5 y.chans, own y.h7 3 cInt 1 y.said, fO (innerO y)] (DoR (doOp P.pure y.pure k op))) := by
 obtain ⟨e0, e1, hkt, n4, hp0⟩ := r.lens
 have lt : P.pure.threads.length = P.threads.length := by simp [ProgH.pure]
 have hnm : y.places.length = y.status.length := by rw [e0, e1]
 have hn : P.threads.length = y.places.length := e0.symm
 have hn4 : y.places.length ≤ 100 := by omega
 have hkn : 0 ≤ (k : Int) ∧ (k : Int) < (y.places.length : Int) := by omega
 have hw1 : ∀ x ∈ [(k : Int)], 0 ≤ x ∧ x < (y.places.length : Int) := fun x hx => by simp at hx; rw [hx]; exact hkn
 have hpA : ∀ a ∈ y.pure.places, 0 ≤ a ∧ a ≤ 100 := fun x hx => by have := hp0 x hx; omega
 obtain ⟨x, hx, hxa, hv, hval, hi⟩ := r.chan h8
 have hil : op.on.toNat < y.chans.length := by have := (List.getElem?_eq_some_iff.1 hx).1; simpa [StateH.pure] using this
 have hxe : (y.chans[op.on.toNat]'hil).m = x := by have := hx; simp only [StateH.pure, List.getElem?_map, List.getElem?_eq_getElem hil, Option.map_some, Option.some.injEq] at this; exact this
 subst hxe
 have hnq := fun u (h : ofKey (events y.pure) u = []) => (swap_chans hx (y.chans[op.on.toNat]).m).none h
 have hsm := hv.small
 refine callsG_fn Tryz.func142 rfl tabOk w _ rfl _ rfl _ _ h ⟨rfl, rfl, trivial⟩ _ _ rfl rfl ?_
 refine stop_idx encChanH tabOk rfl rfl rfl rfl rfl ⟨rfl, rfl⟩ (rdVia 6 rfl (Rd.own (o := false) (o' := false))) op.on.toNat hi.symm z38 (fun ad5 => ?_)
 apply CaseB.mk <;> intro g
 · have hk : op.kind = 8 := by simpa using g
   obtain ⟨x1, told, b1, o1, hres⟩ : ∃ x1 told b1 o1, (y.chans[op.on.toNat]'hil).m.send k op.arg = (x1, told, b1, o1) := ⟨_, _, _, _, rfl⟩
   have htin := send_told hres
   have htl : told.length ≤ 100 := by omega
   have htold : ∀ u ∈ told, 0 ≤ u ∧ u < (y.places.length : Int) := fun u hu => by
     have := r.ft.isIn fun h0 => z72
     rw [lt] at this
     omega
   have htk : ∀ u ∈ told ++ [(k : Int)], 0 ≤ u ∧ u < (y.places.length : Int) := fun u hu => by
     rcases List.mem_append.1 hu with hu | hu
     · exact htold u hu
     · exact hw1 u hu
   refine stop_call _ cl168 rfl rfl rfl rfl ⟨rfl, rfl⟩ (fun A w hW => sendS_c _ _ _ _ _ _ w ⟨hW.get 8 rfl (.ofO (rdChan0 y _ hil)), hW.get 8 rfl (.ofO (rdChan1 y _ hil)), hW.get 8 rfl (.ofO (rdChan2 y _ hil)), trivial⟩ hsm) ?_
   rw [hres]
   rintro v L ⟨q0, q1, q2, z1, rfl, rfl⟩
   apply CaseB.mk <;> intro g
   · have e2 : o1 = false := by simpa using g
     refine stop_call _ cl136 rfl rfl rfl rfl ⟨rfl, rfl⟩ (fun A w hW => l7Stop_c y 3 w) ?_
     rintro v L ⟨rfl, rfl⟩
     have hlp : (y.pure).places.length = y.places.length := rfl
     have hls : (y.pure).status.length = y.status.length := rfl
     obtain ⟨y9, hy9⟩ : ∃ y9 : StateH, y9 = ⟨(y.pure).places, (y.pure).status, y.sems, y.onces, y.groups, y.barriers, y.chans, y.said, 3, y.h0, y.h1, y.h2, y.h3, y.h4, y.h5, y.h6, y.h7⟩ := ⟨_, rfl⟩
     have hP : y9.pure = doOp P.pure y.pure k op := by
       rw [doOp, if_neg (by omega), if_neg (by omega), if_neg (by omega), if_neg (by omega), if_neg (by omega), if_neg (by omega), if_neg (by omega), if_pos hk, doSend, hxa, hres, hy9]
       simp [e2, faultM, StateH.pure]
     have hv : stateV y9 = .agg #[y.h0.val y.places.length, y.h1.val y.status.length, y.h2.val y.sems.length, y.h3.val y.onces.length, y.h4.val y.groups.length, y.h5.val y.barriers.length, y.h6.val y.chans.length, (y.h7).val (y.said).length, .int .i64 3] := by
       rw [hy9]; simp only [stateV, hlp, hls]
     refine ret_shift (Shift.pack (G := stateO y9) (stateN y9 z56 (by rw [hy9]; exact fun g hg => inON 12 rfl hg))) ?_
     exact retG [0] ⟨y9, hv.symm, hP, rfl⟩ z133 rfl ⟨rfl, trivial⟩ (fun _ => rfl)
   have e2 : o1 = true := by simpa using g
   refine stop_idxW encChanH 10 tabOk rfl rfl rfl rfl rfl ⟨rfl, rfl⟩ rfl z83 op.on.toNat hi.symm hil (fun gg hgg => ?_)
   refine stop_storeW encChanH 10 tabOk rfl rfl rfl rfl rfl rfl rfl rfl hgg op.on.toNat 0 ⟨x1, q0, q1, q2⟩ rfl hil rfl (cChanH ⟨x1, q0, q1, q2⟩) (fun _ => rfl) z68 ?_
   apply CaseB.mk <;> intro g
   · have e3 : ¬ told = [] := fun e => by subst e; simp at g
     refine AllSl.mk fun zs => ?_
     refine stop_app encInt 12 tabOk (xs := y.said) (ys := [op.arg]) rfl rfl rfl rfl rfl rfl rfl rfl rfl (by decide) ⟨rfl, rfl⟩ rfl z30 z38 z38 (fun z9 => ?_)
     apply CaseB.mk <;> intro g
     · have e4 : b1 = true := g
       refine AllSl.mk fun zk => ?_
       refine stop_app encInt 7 tabOk (xs := told) (ys := [(k : Int)]) rfl rfl rfl rfl rfl rfl rfl rfl rfl (by decide) ⟨rfl, rfl⟩ rfl z30 z38 z38 (fun z5 => ?_)
       refine stop_callG _ [8, 9] (G := [_, _]) cl141 rfl rfl rfl rfl ⟨rfl, rfl⟩ ⟨rfl, rfl, trivial⟩ ⟨rfl, rfl, rfl, rfl, trivial⟩ (fun A w hW => (l7On_c _ _ P y _ _ z5 (told ++ [(k : Int)]) (y.pure) w (hW.atG [8, 9] (G := [_, _]) ⟨rfl, rfl, trivial⟩ rfl ⟨rfl, rfl, rfl, rfl, trivial⟩ [15, 0] (Fo := [_, _]) z131 rfl) rfl rfl hnm hn htk z94 hpA hn4)) ?_
       rintro v L ⟨rfl, rfl⟩
       have hlp : (onM P.pure (told ++ [(k : Int)]) (y.pure)).places.length = y.places.length := ((onM_len _ _ _).1.trans rfl)
       have hls : (onM P.pure (told ++ [(k : Int)]) (y.pure)).status.length = y.status.length := ((onM_len _ _ _).2.trans rfl)
       obtain ⟨y9, hy9⟩ : ∃ y9 : StateH, y9 = ⟨(onM P.pure (told ++ [(k : Int)]) (y.pure)).places, (onM P.pure (told ++ [(k : Int)]) (y.pure)).status, y.sems, y.onces, y.groups, y.barriers, (y.chans.set op.on.toNat ⟨x1, q0, q1, q2⟩), (y.said ++ [op.arg]), y.fault, y.h0, y.h1, y.h2, y.h3, y.h4, y.h5, y.h6, z9⟩ := ⟨_, rfl⟩
       have hP : y9.pure = doOp P.pure y.pure k op := by
         rw [doOp, if_neg (by omega), if_neg (by omega), if_neg (by omega), if_neg (by omega), if_neg (by omega), if_neg (by omega), if_neg (by omega), if_pos hk, doSend, hxa, hres]
         show _ = if o1 = true then (if b1 = true then onM P.pure (told ++ [(k : Int)]) (if told = [] then setChan y.pure op x1 else sayM (setChan y.pure op x1) op.arg) else waitM (setChan y.pure op x1) k 1) else faultM y.pure 3
         rw [if_pos e2, if_pos e4, if_neg e3, onM_eq P.pure (told ++ [(k : Int)]) y.pure (sayM (setChan y.pure op x1) op.arg) rfl rfl, hy9]
         simp only [StateH.pure, setChan, sayM, List.map_set]
       have hv : stateV y9 = .agg #[y.h0.val y.places.length, y.h1.val y.status.length, y.h2.val y.sems.length, y.h3.val y.onces.length, y.h4.val y.groups.length, y.h5.val y.barriers.length, y.h6.val y.chans.length, (z9).val ((y.said ++ [op.arg])).length, .int .i64 y.fault] := by
         rw [hy9]; simp only [stateV, hlp, hls, List.length_set]
       refine ret_shift (Shift.pack (G := stateO y9) (stateN y9 z51 z32)) ?_
       exact retG [0] ⟨y9, hv.symm, hP, rfl⟩ z133 rfl ⟨rfl, trivial⟩ (fun _ => rfl)
     · exact (e3 (htin.2.2 g)).elim
   have e3 : told = [] := List.eq_nil_of_length_eq_zero z79
   apply CaseB.mk <;> intro g
   · have e4 : b1 = true := g
     refine AllSl.mk fun zk => ?_
     refine stop_app encInt 5 tabOk (xs := told) (ys := [(k : Int)]) rfl rfl rfl rfl rfl rfl rfl rfl rfl (by decide) ⟨rfl, rfl⟩ rfl z30 z38 z38 (fun z5 => ?_)
     refine stop_callG _ [6, 7] (G := [_, _]) cl141 rfl rfl rfl rfl ⟨rfl, rfl⟩ ⟨rfl, rfl, trivial⟩ ⟨rfl, rfl, rfl, rfl, trivial⟩ (fun A w hW => (l7On_c _ _ P y _ _ z5 (told ++ [(k : Int)]) (y.pure) w (hW.atG [6, 7] (G := [_, _]) ⟨rfl, rfl, trivial⟩ rfl ⟨rfl, rfl, rfl, rfl, trivial⟩ [14, 0] (Fo := [_, _]) z131 rfl) rfl rfl hnm hn htk z94 hpA hn4)) ?_
     rintro v L ⟨rfl, rfl⟩
     have hlp : (onM P.pure (told ++ [(k : Int)]) (y.pure)).places.length = y.places.length := ((onM_len _ _ _).1.trans rfl)
     have hls : (onM P.pure (told ++ [(k : Int)]) (y.pure)).status.length = y.status.length := ((onM_len _ _ _).2.trans rfl)
     obtain ⟨y9, hy9⟩ : ∃ y9 : StateH, y9 = ⟨(onM P.pure (told ++ [(k : Int)]) (y.pure)).places, (onM P.pure (told ++ [(k : Int)]) (y.pure)).status, y.sems, y.onces, y.groups, y.barriers, (y.chans.set op.on.toNat ⟨x1, q0, q1, q2⟩), y.said, y.fault, y.h0, y.h1, y.h2, y.h3, y.h4, y.h5, y.h6, y.h7⟩ := ⟨_, rfl⟩
     have hP : y9.pure = doOp P.pure y.pure k op := by
       rw [doOp, if_neg (by omega), if_neg (by omega), if_neg (by omega), if_neg (by omega), if_neg (by omega), if_neg (by omega), if_neg (by omega), if_pos hk, doSend, hxa, hres]
       show _ = if o1 = true then (if b1 = true then onM P.pure (told ++ [(k : Int)]) (if told = [] then setChan y.pure op x1 else sayM (setChan y.pure op x1) op.arg) else waitM (setChan y.pure op x1) k 1) else faultM y.pure 3
       rw [if_pos e2, if_pos e4, if_pos e3, onM_eq P.pure (told ++ [(k : Int)]) y.pure (setChan y.pure op x1) rfl rfl, hy9]
       simp only [StateH.pure, setChan, List.map_set]
     have hv : stateV y9 = .agg #[y.h0.val y.places.length, y.h1.val y.status.length, y.h2.val y.sems.length, y.h3.val y.onces.length, y.h4.val y.groups.length, y.h5.val y.barriers.length, y.h6.val y.chans.length, (y.h7).val (y.said).length, .int .i64 y.fault] := by
       rw [hy9]; simp only [stateV, hlp, hls, List.length_set]
     refine ret_shift (Shift.pack (G := stateO y9) (stateN y9 z53 z33)) ?_
     exact retG [0] ⟨y9, hv.symm, hP, rfl⟩ z133 rfl ⟨rfl, trivial⟩ (fun _ => rfl)
   · have e5 : b1 = false := g
     have e4 : ¬ b1 = true := by rw [e5]; decide
     refine stop_idxW encInt 6 tabOk rfl rfl rfl rfl rfl ⟨rfl, rfl⟩ rfl rfl k rfl (by omega) (fun gs hgs => ?_)
     refine stop_storeW encInt 6 tabOk rfl rfl rfl rfl rfl rfl rfl rfl hgs k 0 1 rfl (by omega) rfl [.int .i64 1] (fun _ => rfl) rfl ?_
     refine stop_callG _ [6, 0] (G := [_, _]) cl141 rfl rfl rfl rfl ⟨rfl, rfl⟩ ⟨rfl, rfl, trivial⟩ ⟨rfl, rfl, rfl, rfl, trivial⟩ (fun A w hW => (l7On_c _ _ P y _ _ _ (told) (waitM (y.pure) k 1) w (hW.atG [6, 0] (G := [_, _]) ⟨rfl, rfl, trivial⟩ rfl ⟨rfl, rfl, rfl, rfl, trivial⟩ [13, 5] (Fo := [_, _]) z131 rfl) rfl ((List.length_set ..).trans rfl) hnm hn htold htl hpA hn4)) ?_
     rintro v L ⟨rfl, rfl⟩
     have hlp : (onM P.pure (told) (waitM (y.pure) k 1)).places.length = y.places.length := ((onM_len _ _ _).1.trans rfl)
     have hls : (onM P.pure (told) (waitM (y.pure) k 1)).status.length = y.status.length := ((onM_len _ _ _).2.trans ((List.length_set ..).trans rfl))
     obtain ⟨y9, hy9⟩ : ∃ y9 : StateH, y9 = ⟨(onM P.pure (told) (waitM (y.pure) k 1)).places, (onM P.pure (told) (waitM (y.pure) k 1)).status, y.sems, y.onces, y.groups, y.barriers, (y.chans.set op.on.toNat ⟨x1, q0, q1, q2⟩), y.said, y.fault, y.h0, y.h1, y.h2, y.h3, y.h4, y.h5, y.h6, y.h7⟩ := ⟨_, rfl⟩
     have hP : y9.pure = doOp P.pure y.pure k op := by
       rw [doOp, if_neg (by omega), if_neg (by omega), if_neg (by omega), if_neg (by omega), if_neg (by omega), if_neg (by omega), if_neg (by omega), if_pos hk, doSend, hxa, hres]
       show _ = if o1 = true then (if b1 = true then onM P.pure (told ++ [(k : Int)]) (if told = [] then setChan y.pure op x1 else sayM (setChan y.pure op x1) op.arg) else waitM (setChan y.pure op x1) k 1) else faultM y.pure 3
       rw [if_pos e2, if_neg e4, hy9, e3]
       simp only [StateH.pure, setChan, List.map_set, waitM, onM, List.foldl_nil]
     have hv : stateV y9 = .agg #[y.h0.val y.places.length, y.h1.val y.status.length, y.h2.val y.sems.length, y.h3.val y.onces.length, y.h4.val y.groups.length, y.h5.val y.barriers.length, y.h6.val y.chans.length, (y.h7).val (y.said).length, .int .i64 y.fault] := by
       rw [hy9]; simp only [stateV, hlp, hls, List.length_set]
     refine ret_shift (Shift.pack (G := stateO y9) (stateN y9 z55 (by rw [hy9]; exact fun g hg => (inner_chan hg).elim (fun h => inON 12 rfl h) (fun h => by simp only [chanO, List.mem_cons, List.not_mem_nil, or_false] at h; rcases h with rfl | rfl | rfl <;> first | exact inFN 3 rfl rfl | exact inFN 4 rfl rfl | exact inFN 5 rfl rfl)))) ?_
     exact retG [0] ⟨y9, hv.symm, hP, rfl⟩ z133 rfl ⟨rfl, trivial⟩ (fun _ => rfl)
 have k8 : ¬ op.kind = 8 := by simpa using g
 apply CaseB.mk <;> intro g
 · have hk : op.kind = 9 := by simpa using g
   obtain ⟨x1, v1, c1, told, o1, hres⟩ : ∃ x1 v1 c1 told o1, (y.chans[op.on.toNat]'hil).m.get k = (x1, v1, c1, told, o1) := ⟨_, _, _, _, _, rfl⟩
   have htin := get_told hres
   have htl : told.length ≤ 100 := by omega
   have htold : ∀ u ∈ told, 0 ≤ u ∧ u < (y.places.length : Int) := fun u hu => by
     have := r.ft.isIn fun h0 => z72
     rw [lt] at this
     omega
   have htk : ∀ u ∈ told ++ [(k : Int)], 0 ≤ u ∧ u < (y.places.length : Int) := fun u hu => by
     rcases List.mem_append.1 hu with hu | hu
     · exact htold u hu
     · exact hw1 u hu
   refine stop_call _ cl169 rfl rfl rfl rfl ⟨rfl, rfl⟩ (fun A w hW => getS_c _ _ _ _ _ w ⟨hW.get 8 rfl (.ofO (rdChan0 y _ hil)), hW.get 8 rfl (.ofO (rdChan1 y _ hil)), hW.get 8 rfl (.ofO (rdChan2 y _ hil)), trivial⟩ hsm) ?_
   rw [hres]
   rintro v L ⟨q0, q1, q2, z1, rfl, rfl⟩
   refine stop_idxW encChanH 10 tabOk rfl rfl rfl rfl rfl ⟨rfl, rfl⟩ rfl z83 op.on.toNat hi.symm hil (fun gg hgg => ?_)
   refine stop_storeW encChanH 10 tabOk rfl rfl rfl rfl rfl rfl rfl rfl hgg op.on.toNat 0 ⟨x1, q0, q1, q2⟩ rfl hil rfl (cChanH ⟨x1, q0, q1, q2⟩) (fun _ => rfl) z68 ?_
   apply CaseB.mk <;> intro g
   · have c0 : c1 = 0 := by simpa using g
     refine stop_idxW encInt 6 tabOk rfl rfl rfl rfl rfl ⟨rfl, rfl⟩ rfl rfl k rfl (by omega) (fun gs hgs => ?_)
     refine stop_storeW encInt 6 tabOk rfl rfl rfl rfl rfl rfl rfl rfl hgs k 0 1 rfl (by omega) rfl [.int .i64 1] (fun _ => rfl) rfl ?_
     have hlp : (waitM (y.pure) k 1).places.length = y.places.length := rfl
     have hls : (waitM (y.pure) k 1).status.length = y.status.length := ((List.length_set ..).trans rfl)
     obtain ⟨y9, hy9⟩ : ∃ y9 : StateH, y9 = ⟨(waitM (y.pure) k 1).places, (waitM (y.pure) k 1).status, y.sems, y.onces, y.groups, y.barriers, (y.chans.set op.on.toNat ⟨x1, q0, q1, q2⟩), y.said, y.fault, y.h0, y.h1, y.h2, y.h3, y.h4, y.h5, y.h6, y.h7⟩ := ⟨_, rfl⟩
     have hP : y9.pure = doOp P.pure y.pure k op := by
       rw [doOp, if_neg (by omega), if_neg (by omega), if_neg (by omega), if_neg (by omega), if_neg (by omega), if_neg (by omega), if_neg (by omega), if_neg (by omega), if_pos hk, doGet, hxa, hres]
       show _ = if c1 = 0 then waitM (setChan y.pure op x1) k 1 else onM P.pure (told ++ [(k : Int)]) (if c1 = 1 then sayM (setChan y.pure op x1) v1 else setChan y.pure op x1)
       rw [if_pos c0, hy9]
       simp only [StateH.pure, setChan, List.map_set, waitM]
     have hv : stateV y9 = .agg #[y.h0.val y.places.length, y.h1.val y.status.length, y.h2.val y.sems.length, y.h3.val y.onces.length, y.h4.val y.groups.length, y.h5.val y.barriers.length, y.h6.val y.chans.length, (y.h7).val (y.said).length, .int .i64 y.fault] := by
       rw [hy9]; simp only [stateV, hlp, hls, List.length_set]
     refine ret_shift (Shift.pack (G := stateO y9) (stateN y9 (by rw [hy9]; exact outIn 6 0 7 8 9 10 1 11 rfl rfl rfl rfl rfl rfl rfl rfl) (by rw [hy9]; exact fun g hg => (inner_chan hg).elim (fun h => inON 12 rfl h) (fun h => by simp only [chanO, List.mem_cons, List.not_mem_nil, or_false] at h; rcases h with rfl | rfl | rfl <;> first | exact inFN 2 rfl rfl | exact inFN 3 rfl rfl | exact inFN 4 rfl rfl)))) ?_
     exact retG [0] ⟨y9, hv.symm, hP, rfl⟩ z133 rfl ⟨rfl, trivial⟩ (fun _ => rfl)
   have c0 : ¬ c1 = 0 := by simpa using g
   apply CaseB.mk <;> intro g
   · have c2 : c1 = 1 := by simpa using g
     refine AllSl.mk fun zs => ?_
     refine stop_app encInt 12 tabOk (xs := y.said) (ys := [v1]) rfl rfl rfl rfl rfl rfl rfl rfl rfl (by decide) ⟨rfl, rfl⟩ rfl z30 z38 z38 (fun z9 => ?_)
     refine draw_start tabOk z95 z95 z95 200 [((0, 0), .v (P.h0.val P.sems.length)), ((0, 1), .v (P.h1.val P.groups.length)), ((0, 2), .v (P.h2.val P.barriers.length)), ((0, 3), .v (P.h3.val P.rooms.length)), ((0, 4), .v (P.h4.val P.threads.length)), ((1, 0), .v (y.h0.val y.places.length)), ((1, 1), .v (y.h1.val y.status.length)), ((1, 2), .v (y.h2.val y.sems.length)), ((1, 3), .v (y.h3.val y.onces.length)), ((1, 4), .v (y.h4.val y.groups.length)), ((1, 5), .v (y.h5.val y.barriers.length)), ((1, 6), .v (y.h6.val y.chans.length)), ((1, 7), .v ((z9).val ((y.said ++ [v1])).length)), ((1, 8), .v (.int .i64 y.fault))] [] [] z99 z103 trivial rfl ?_
     refine AllSl.mk fun zk => ?_
     refine d_app (ti := tiOf tab) encInt 7 tabOk (xs := told) (ys := [(k : Int)]) rfl rfl rfl rfl rfl rfl rfl rfl rfl (by decide) ⟨rfl, rfl⟩ rfl z30 z38 z38 z93 (fun z5 => ?_)
     refine d_callG _ [8, 9] (G := [_, _]) cl141 rfl rfl rfl rfl ⟨rfl, rfl⟩ ⟨rfl, rfl, trivial⟩ ⟨rfl, rfl, rfl, rfl, trivial⟩ z93 (fun A w hW => (l7On_c _ _ P y _ _ z5 (told ++ [(k : Int)]) (y.pure) w (hW.atG [8, 9] (G := [_, _]) ⟨rfl, rfl, trivial⟩ rfl ⟨rfl, rfl, rfl, rfl, trivial⟩ [15, 0] (Fo := [_, _]) z131 rfl) rfl rfl hnm hn htk z94 hpA hn4)) ?_
     rintro v L ⟨rfl, rfl⟩
     have hlp : (onM P.pure (told ++ [(k : Int)]) (y.pure)).places.length = y.places.length := ((onM_len _ _ _).1.trans rfl)
     have hls : (onM P.pure (told ++ [(k : Int)]) (y.pure)).status.length = y.status.length := ((onM_len _ _ _).2.trans rfl)
     obtain ⟨y9, hy9⟩ : ∃ y9 : StateH, y9 = ⟨(onM P.pure (told ++ [(k : Int)]) (y.pure)).places, (onM P.pure (told ++ [(k : Int)]) (y.pure)).status, y.sems, y.onces, y.groups, y.barriers, (y.chans.set op.on.toNat ⟨x1, q0, q1, q2⟩), (y.said ++ [v1]), y.fault, y.h0, y.h1, y.h2, y.h3, y.h4, y.h5, y.h6, z9⟩ := ⟨_, rfl⟩
     have hP : y9.pure = doOp P.pure y.pure k op := by
       rw [doOp, if_neg (by omega), if_neg (by omega), if_neg (by omega), if_neg (by omega), if_neg (by omega), if_neg (by omega), if_neg (by omega), if_neg (by omega), if_pos hk, doGet, hxa, hres]
       show _ = if c1 = 0 then waitM (setChan y.pure op x1) k 1 else onM P.pure (told ++ [(k : Int)]) (if c1 = 1 then sayM (setChan y.pure op x1) v1 else setChan y.pure op x1)
       rw [if_neg c0, if_pos c2, onM_eq P.pure (told ++ [(k : Int)]) y.pure (sayM (setChan y.pure op x1) v1) rfl rfl, hy9]
       simp only [StateH.pure, setChan, sayM, List.map_set]
     have hv : stateV y9 = .agg #[y.h0.val y.places.length, y.h1.val y.status.length, y.h2.val y.sems.length, y.h3.val y.onces.length, y.h4.val y.groups.length, y.h5.val y.barriers.length, y.h6.val y.chans.length, (z9).val ((y.said ++ [v1])).length, .int .i64 y.fault] := by
       rw [hy9]; simp only [stateV, hlp, hls, List.length_set]
     refine ret_shift (Shift.pack (G := stateO y9) (stateN y9 z51 z32)) ?_
     exact retG [0] ⟨y9, hv.symm, hP, rfl⟩ z133 rfl ⟨rfl, trivial⟩ (fun _ => rfl)
   have c2 : ¬ c1 = 1 := by simpa using g
   refine draw_start tabOk z95 z95 z95 200 [((0, 0), .v (P.h0.val P.sems.length)), ((0, 1), .v (P.h1.val P.groups.length)), ((0, 2), .v (P.h2.val P.barriers.length)), ((0, 3), .v (P.h3.val P.rooms.length)), ((0, 4), .v (P.h4.val P.threads.length)), ((1, 0), .v (y.h0.val y.places.length)), ((1, 1), .v (y.h1.val y.status.length)), ((1, 2), .v (y.h2.val y.sems.length)), ((1, 3), .v (y.h3.val y.onces.length)), ((1, 4), .v (y.h4.val y.groups.length)), ((1, 5), .v (y.h5.val y.barriers.length)), ((1, 6), .v (y.h6.val y.chans.length)), ((1, 7), .v ((y.h7).val (y.said).length)), ((1, 8), .v (.int .i64 y.fault))] [] [] z99 z103 trivial rfl ?_
   refine AllSl.mk fun zk => ?_
   refine d_app (ti := tiOf tab) encInt 5 tabOk (xs := told) (ys := [(k : Int)]) rfl rfl rfl rfl rfl rfl rfl rfl rfl (by decide) ⟨rfl, rfl⟩ rfl z30 z38 z38 z93 (fun z5 => ?_)
   refine d_callG _ [6, 7] (G := [_, _]) cl141 rfl rfl rfl rfl ⟨rfl, rfl⟩ ⟨rfl, rfl, trivial⟩ ⟨rfl, rfl, rfl, rfl, trivial⟩ z93 (fun A w hW => (l7On_c _ _ P y _ _ z5 (told ++ [(k : Int)]) (y.pure) w (hW.atG [6, 7] (G := [_, _]) ⟨rfl, rfl, trivial⟩ rfl ⟨rfl, rfl, rfl, rfl, trivial⟩ [14, 0] (Fo := [_, _]) z131 rfl) rfl rfl hnm hn htk z94 hpA hn4)) ?_
   rintro v L ⟨rfl, rfl⟩
   have hlp : (onM P.pure (told ++ [(k : Int)]) (y.pure)).places.length = y.places.length := ((onM_len _ _ _).1.trans rfl)
   have hls : (onM P.pure (told ++ [(k : Int)]) (y.pure)).status.length = y.status.length := ((onM_len _ _ _).2.trans rfl)
   obtain ⟨y9, hy9⟩ : ∃ y9 : StateH, y9 = ⟨(onM P.pure (told ++ [(k : Int)]) (y.pure)).places, (onM P.pure (told ++ [(k : Int)]) (y.pure)).status, y.sems, y.onces, y.groups, y.barriers, (y.chans.set op.on.toNat ⟨x1, q0, q1, q2⟩), y.said, y.fault, y.h0, y.h1, y.h2, y.h3, y.h4, y.h5, y.h6, y.h7⟩ := ⟨_, rfl⟩
   have hP : y9.pure = doOp P.pure y.pure k op := by
     rw [doOp, if_neg (by omega), if_neg (by omega), if_neg (by omega), if_neg (by omega), if_neg (by omega), if_neg (by omega), if_neg (by omega), if_neg (by omega), if_pos hk, doGet, hxa, hres]
     show _ = if c1 = 0 then waitM (setChan y.pure op x1) k 1 else onM P.pure (told ++ [(k : Int)]) (if c1 = 1 then sayM (setChan y.pure op x1) v1 else setChan y.pure op x1)
     rw [if_neg c0, if_neg c2, onM_eq P.pure (told ++ [(k : Int)]) y.pure (setChan y.pure op x1) rfl rfl, hy9]
     simp only [StateH.pure, setChan, List.map_set]
   have hv : stateV y9 = .agg #[y.h0.val y.places.length, y.h1.val y.status.length, y.h2.val y.sems.length, y.h3.val y.onces.length, y.h4.val y.groups.length, y.h5.val y.barriers.length, y.h6.val y.chans.length, (y.h7).val (y.said).length, .int .i64 y.fault] := by
     rw [hy9]; simp only [stateV, hlp, hls, List.length_set]
   refine ret_shift (Shift.pack (G := stateO y9) (stateN y9 z53 z33)) ?_
   exact retG [0] ⟨y9, hv.symm, hP, rfl⟩ z133 rfl ⟨rfl, trivial⟩ (fun _ => rfl)
 have k9 : ¬ op.kind = 9 := by simpa using g
 have hk : op.kind = 10 := by have := r.ok.2.1; omega
 obtain ⟨x1, told, o1, hres⟩ : ∃ x1 told o1, (y.chans[op.on.toNat]'hil).m.close = (x1, told, o1) := ⟨_, _, _, rfl⟩
 have htin := close_told hv hres
 have htl : told.length ≤ 100 := by omega
 have htold : ∀ u ∈ told, 0 ≤ u ∧ u < (y.places.length : Int) := fun u hu => by
   have := r.ft.isIn fun h0 => z72
   rw [lt] at this
   omega
 have htk : ∀ u ∈ told ++ [(k : Int)], 0 ≤ u ∧ u < (y.places.length : Int) := fun u hu => by
   rcases List.mem_append.1 hu with hu | hu
   · exact htold u hu
   · exact hw1 u hu
 refine stop_call _ cl170 rfl rfl rfl rfl ⟨rfl, rfl⟩ (fun A w hW => closeS_c _ _ _ _ w ⟨hW.get 8 rfl (.ofO (rdChan0 y _ hil)), hW.get 8 rfl (.ofO (rdChan1 y _ hil)), hW.get 8 rfl (.ofO (rdChan2 y _ hil)), trivial⟩ hsm) ?_
 rw [hres]
 rintro v L ⟨q0, q1, q2, z1, rfl, rfl⟩
 apply CaseB.mk <;> intro g
 · have e2 : ¬ o1 = true := by have e : o1 = false := z91; rw [e]; decide
   refine stop_call _ cl136 rfl rfl rfl rfl ⟨rfl, rfl⟩ (fun A w hW => l7Stop_c y 4 w) ?_
   rintro v L ⟨rfl, rfl⟩
   have hlp : (y.pure).places.length = y.places.length := rfl
   have hls : (y.pure).status.length = y.status.length := rfl
   obtain ⟨y9, hy9⟩ : ∃ y9 : StateH, y9 = ⟨(y.pure).places, (y.pure).status, y.sems, y.onces, y.groups, y.barriers, y.chans, y.said, 4, y.h0, y.h1, y.h2, y.h3, y.h4, y.h5, y.h6, y.h7⟩ := ⟨_, rfl⟩
   have hP : y9.pure = doOp P.pure y.pure k op := by
     rw [doOp, if_neg (by omega), if_neg (by omega), if_neg (by omega), if_neg (by omega), if_neg (by omega), if_neg (by omega), if_neg (by omega), if_neg (by omega), if_neg (by omega), doClose, hxa, hres]
     show _ = if o1 = true then onM P.pure (told ++ [(k : Int)]) (setChan y.pure op x1) else faultM y.pure 4
     rw [if_neg e2, hy9]
     rfl
   have hv : stateV y9 = .agg #[y.h0.val y.places.length, y.h1.val y.status.length, y.h2.val y.sems.length, y.h3.val y.onces.length, y.h4.val y.groups.length, y.h5.val y.barriers.length, y.h6.val y.chans.length, (y.h7).val (y.said).length, .int .i64 4] := by
     rw [hy9]; simp only [stateV, hlp, hls]
   refine ret_shift (Shift.pack (G := stateO y9) (stateN y9 z56 (by rw [hy9]; exact fun g hg => inON 12 rfl hg))) ?_
   exact retG [0] ⟨y9, hv.symm, hP, rfl⟩ z133 rfl ⟨rfl, trivial⟩ (fun _ => rfl)
 have e2 : o1 = true := by simpa using g
 refine stop_idxW encChanH 10 tabOk rfl rfl rfl rfl rfl ⟨rfl, rfl⟩ rfl z83 op.on.toNat hi.symm hil (fun gg hgg => ?_)
 refine stop_storeW encChanH 10 tabOk rfl rfl rfl rfl rfl rfl rfl rfl hgg op.on.toNat 0 ⟨x1, q0, q1, q2⟩ rfl hil rfl (cChanH ⟨x1, q0, q1, q2⟩) (fun _ => rfl) z68 ?_
 refine draw_start tabOk z95 z95 z95 200 [((0, 0), .v (P.h0.val P.sems.length)), ((0, 1), .v (P.h1.val P.groups.length)), ((0, 2), .v (P.h2.val P.barriers.length)), ((0, 3), .v (P.h3.val P.rooms.length)), ((0, 4), .v (P.h4.val P.threads.length)), ((1, 0), .v (y.h0.val y.places.length)), ((1, 1), .v (y.h1.val y.status.length)), ((1, 2), .v (y.h2.val y.sems.length)), ((1, 3), .v (y.h3.val y.onces.length)), ((1, 4), .v (y.h4.val y.groups.length)), ((1, 5), .v (y.h5.val y.barriers.length)), ((1, 6), .v (y.h6.val y.chans.length)), ((1, 7), .v ((y.h7).val (y.said).length)), ((1, 8), .v (.int .i64 y.fault))] [] [] z99 z103 trivial rfl ?_
 refine AllSl.mk fun zk => ?_
 refine d_app (ti := tiOf tab) encInt 5 tabOk (xs := told) (ys := [(k : Int)]) rfl rfl rfl rfl rfl rfl rfl rfl rfl (by decide) ⟨rfl, rfl⟩ rfl z30 z38 z38 z93 (fun z5 => ?_)
 refine d_callG _ [6, 7] (G := [_, _]) cl141 rfl rfl rfl rfl ⟨rfl, rfl⟩ ⟨rfl, rfl, trivial⟩ ⟨rfl, rfl, rfl, rfl, trivial⟩ z93 (fun A w hW => (l7On_c _ _ P y _ _ z5 (told ++ [(k : Int)]) (y.pure) w (hW.atG [6, 7] (G := [_, _]) ⟨rfl, rfl, trivial⟩ rfl ⟨rfl, rfl, rfl, rfl, trivial⟩ [14, 0] (Fo := [_, _]) z131 rfl) rfl rfl hnm hn htk z94 hpA hn4)) ?_
 rintro v L ⟨rfl, rfl⟩
 have hlp : (onM P.pure (told ++ [(k : Int)]) (y.pure)).places.length = y.places.length := ((onM_len _ _ _).1.trans rfl)
 have hls : (onM P.pure (told ++ [(k : Int)]) (y.pure)).status.length = y.status.length := ((onM_len _ _ _).2.trans rfl)
 obtain ⟨y9, hy9⟩ : ∃ y9 : StateH, y9 = ⟨(onM P.pure (told ++ [(k : Int)]) (y.pure)).places, (onM P.pure (told ++ [(k : Int)]) (y.pure)).status, y.sems, y.onces, y.groups, y.barriers, (y.chans.set op.on.toNat ⟨x1, q0, q1, q2⟩), y.said, y.fault, y.h0, y.h1, y.h2, y.h3, y.h4, y.h5, y.h6, y.h7⟩ := ⟨_, rfl⟩
 have hP : y9.pure = doOp P.pure y.pure k op := by
   rw [doOp, if_neg (by omega), if_neg (by omega), if_neg (by omega), if_neg (by omega), if_neg (by omega), if_neg (by omega), if_neg (by omega), if_neg (by omega), if_neg (by omega), doClose, hxa, hres]
   show _ = if o1 = true then onM P.pure (told ++ [(k : Int)]) (setChan y.pure op x1) else faultM y.pure 4
   rw [if_pos e2, onM_eq P.pure (told ++ [(k : Int)]) y.pure (setChan y.pure op x1) rfl rfl, hy9]
   simp only [StateH.pure, setChan, List.map_set]
 have hv : stateV y9 = .agg #[y.h0.val y.places.length, y.h1.val y.status.length, y.h2.val y.sems.length, y.h3.val y.onces.length, y.h4.val y.groups.length, y.h5.val y.barriers.length, y.h6.val y.chans.length, (y.h7).val (y.said).length, .int .i64 y.fault] := by
   rw [hy9]; simp only [stateV, hlp, hls, List.length_set]
 refine ret_shift (Shift.pack (G := stateO y9) (stateN y9 z53 z33)) ?_
 exact retG [0] ⟨y9, hv.symm, hP, rfl⟩ z133 rfl ⟨rfl, trivial⟩ (fun _ => rfl)
set_option maxHeartbeats 32000000 in
set_option maxRecDepth 100000 in
theorem l7Do_c (P : ProgH) (y : StateH) (k : Nat) (ft : Fits P.pure y.pure) (hm : (k : Int) ∈ readyM y.pure) (w : World) (h : AtG w [own y.h0 3 cInt 1 y.places, own y.h1 3 cInt 1 y.status, own y.h2 57 cSemH 3 y.sems, own y.h3 70 cOnceH 4 y.onces, own y.h4 74 cGroupH 2 y.groups, own y.h5 65 cBarrierH 3 y.barriers, own y.h6 80 cChanH 5 y.chans, own y.h7 3 cInt 1 y.said, fO (innerO y)] [fR (progO P)]) :
   Calls Tryz.prog 95 #[progV P, stateV y, .int .i64 (k : Int)] w (RetG w [own y.h0 3 cInt 1 y.places, own y.h1 3 cInt 1 y.status, own y.h2 57 cSemH 3 y.sems, own y.h3 70 cOnceH 4 y.onces, own y.h4 74 cGroupH 2 y.groups, own y.h5 65 cBarrierH 3 y.barriers, own y.h6 80 cChanH 5 y.chans, own y.h7 3 cInt 1 y.said, fO (innerO y)] (DoR (doM P.pure y.pure k))) := by
 obtain ⟨k', ops, a, st, op, hk', r⟩ := rdy ft hm
 obtain rfl : k = k' := by omega
 rw [show doM P.pure y.pure (k : Int) = doOp P.pure y.pure k op by rw [doM, r.at_]]
 have hsd : y.said.length ≤ 64 := ft.lsaid
 obtain ⟨e0, e1, hkt, n4, hp0⟩ := r.lens
 have lt : P.pure.threads.length = P.threads.length := by simp [ProgH.pure]
 have hnm : y.places.length = y.status.length := by rw [e0, e1]
 have hn : P.threads.length = y.places.length := e0.symm
 have hn4 : y.places.length ≤ 100 := by omega
 have hkn : 0 ≤ (k : Int) ∧ (k : Int) < (y.places.length : Int) := by omega
 have hw1 : ∀ x ∈ [(k : Int)], 0 ≤ x ∧ x < (y.places.length : Int) := fun x hx => by simp at hx; rw [hx]; exact hkn
 have hpA : ∀ a ∈ y.pure.places, 0 ≤ a ∧ a ≤ 100 := fun x hx => by have := hp0 x hx; omega
 have hkp : k < y.places.length := by omega
 have hth : (P.threads[k]).m = ops := by have := r.h1; simp only [ProgH.pure, List.getElem?_map, List.getElem?_eq_getElem hkt, Option.map_some, Option.some.injEq] at this; exact this
 have hpl : y.places[k] = a := (List.getElem?_eq_some_iff.1 r.h2).2
 have hz : y.places[k] = ((y.places[k]).toNat : Int) := by have := r.a0; rw [hpl]; omega
 have hlo : (y.places[k]).toNat < (P.threads[k]).m.length := by rw [hth, hpl]; exact (List.getElem?_eq_some_iff.1 r.ho).1
 have hopg : (P.threads[k]).m[(y.places[k]).toNat] = op := by
   have := r.ho
   rw [← hth, ← hpl] at this
   exact (List.getElem?_eq_some_iff.1 this).2
 refine callsG_fn Tryz.func95 rfl tabOk w _ rfl _ rfl _ _ h ⟨rfl, rfl, trivial⟩ _ _ rfl rfl ?_
 refine draw_start tabOk z95 z95 z95 200 [((0, 4), .v (P.h4.val P.threads.length)), ((1, 0), .v (y.h0.val y.places.length))] [9, 0] [_, _] z124 z134 ⟨rfl, rfl, trivial⟩ rfl ?_
 refine d_idx (ti := tiOf tab) encOpSH tabOk rfl rfl rfl rfl rfl ⟨rfl, rfl⟩ (rdVia 0 rfl (.trans (.R_R (progO_threads P)) (.ofR nest_h))) k rfl z38 (fun ad1 => ?_)
 refine d_idx (ti := tiOf tab) encInt tabOk rfl rfl rfl rfl rfl ⟨rfl, rfl⟩ (rdVia 1 rfl (Rd.own (o := false) (o' := false))) k rfl z38 (fun ad2 => ?_)
 refine d_idx (ti := tiOf tab) encOp tabOk rfl rfl rfl rfl rfl ⟨rfl, rfl⟩ (rdVia 0 rfl (.trans (.R_R (progO_threads P)) (.ofR (threadsO_0 _ _ k hkt)))) (y.places[k]).toNat hz z38 (fun ad3 => ?_)
 rw [hopg]
 refine AllSl.mk fun w0 => ?_
 refine CaseB.mk (fun g => ?_) (fun g1 => ?_)
 · have hk : op.kind = 1 := by simpa using g
   refine AllSl.mk fun zs => ?_
   refine stop_app encInt 9 tabOk (xs := y.said) (ys := [op.arg]) rfl rfl rfl rfl rfl rfl rfl rfl rfl (by decide) ⟨rfl, rfl⟩ rfl z30 z38 z38 (fun z9 => ?_)
   refine draw_start tabOk z95 z95 z95 200 [((0, 0), .v (P.h0.val P.sems.length)), ((0, 1), .v (P.h1.val P.groups.length)), ((0, 2), .v (P.h2.val P.barriers.length)), ((0, 3), .v (P.h3.val P.rooms.length)), ((0, 4), .v (P.h4.val P.threads.length)), ((1, 0), .v (y.h0.val y.places.length)), ((1, 1), .v (y.h1.val y.status.length)), ((1, 2), .v (y.h2.val y.sems.length)), ((1, 3), .v (y.h3.val y.onces.length)), ((1, 4), .v (y.h4.val y.groups.length)), ((1, 5), .v (y.h5.val y.barriers.length)), ((1, 6), .v (y.h6.val y.chans.length)), ((1, 7), .v ((z9).val ((y.said ++ [op.arg])).length)), ((1, 8), .v (.int .i64 y.fault))] [] [] z99 z103 trivial rfl ?_
   refine AllSl.mk fun zk => ?_
   refine d_app (ti := tiOf tab) encInt 3 tabOk (xs := ([] : List Int)) (ys := [(k : Int)]) rfl rfl rfl rfl rfl rfl rfl rfl rfl (by decide) ⟨rfl, rfl⟩ rfl z30 z38 z38 z93 (fun z5 => ?_)
   refine d_callG _ [4, 5] (G := [_, _]) cl141 rfl rfl rfl rfl ⟨rfl, rfl⟩ ⟨rfl, rfl, trivial⟩ ⟨rfl, rfl, rfl, rfl, trivial⟩ z93 (fun A w hW => (l7On_c _ _ P y _ _ z5 ([(k : Int)]) (y.pure) w (hW.atG [4, 5] (G := [_, _]) ⟨rfl, rfl, trivial⟩ rfl ⟨rfl, rfl, rfl, rfl, trivial⟩ [12, 0] (Fo := [_, _]) z131 rfl) rfl rfl hnm hn hw1 (by simp) hpA hn4)) ?_
   rintro v L ⟨rfl, rfl⟩
   have hlp : (onM P.pure ([(k : Int)]) (y.pure)).places.length = y.places.length := ((onM_len _ _ _).1.trans rfl)
   have hls : (onM P.pure ([(k : Int)]) (y.pure)).status.length = y.status.length := ((onM_len _ _ _).2.trans rfl)
   obtain ⟨y9, hy9⟩ : ∃ y9 : StateH, y9 = ⟨(onM P.pure ([(k : Int)]) (y.pure)).places, (onM P.pure ([(k : Int)]) (y.pure)).status, y.sems, y.onces, y.groups, y.barriers, y.chans, (y.said ++ [op.arg]), y.fault, y.h0, y.h1, y.h2, y.h3, y.h4, y.h5, y.h6, z9⟩ := ⟨_, rfl⟩
   have hP : y9.pure = doOp P.pure y.pure k op := by
     rw [doOp, if_pos hk, onM_eq P.pure [(k : Int)] y.pure (sayM y.pure op.arg) rfl rfl, hy9]
     simp only [StateH.pure, sayM]
   have hv : stateV y9 = .agg #[y.h0.val y.places.length, y.h1.val y.status.length, y.h2.val y.sems.length, y.h3.val y.onces.length, y.h4.val y.groups.length, y.h5.val y.barriers.length, y.h6.val y.chans.length, (z9).val ((y.said ++ [op.arg])).length, .int .i64 y.fault] := by
     rw [hy9]; simp only [stateV, hlp, hls]
   refine ret_shift (Shift.pack (G := stateO y9) (stateN y9 (by rw [hy9]; exact outIn 0 1 6 7 8 9 10 4 rfl rfl rfl rfl rfl rfl rfl rfl) (by rw [hy9]; exact fun g hg => inON 11 rfl hg))) ?_
   exact retG [0] ⟨y9, hv.symm, hP, rfl⟩ z133 rfl ⟨rfl, trivial⟩ (fun _ => rfl)
 refine CaseB.mk (fun g => ?_) (fun g2 => ?_)
 · have hk : op.kind = 2 := by simpa using g
   obtain ⟨x, hx, hxa, ok, a1, a2, hi⟩ := r.sem (.inl hk)
   have hil : op.on.toNat < y.sems.length := by have := (List.getElem?_eq_some_iff.1 hx).1; simpa [StateH.pure] using this
   have hxe : (y.sems[op.on.toNat]'hil).m = x := by have := hx; simp only [StateH.pure, List.getElem?_map, List.getElem?_eq_getElem hil, Option.map_some, Option.some.injEq] at this; exact this
   subst hxe
   have hnq := fun u (h : ofKey (events y.pure) u = []) => (swap_sems hx (y.sems[op.on.toNat]).m).none h
   have hq := ofKey_map_nil.1 (hnq _ r.ev)
   obtain ⟨x1, b1, hres⟩ : ∃ x1 b1, (y.sems[op.on.toNat]'hil).m.acquire k op.arg = (x1, b1) := ⟨_, _, rfl⟩
   refine draw_start tabOk z95 z95 z95 200 [((1, 2), .v (y.h2.val y.sems.length)), ((3, 1), .v (.int .i64 op.on)), ((3, 2), .v (.int .i64 op.arg))] [3] [_] z118 z130 ⟨rfl, trivial⟩ rfl ?_
   refine d_idx (ti := tiOf tab) encSemH tabOk rfl rfl rfl rfl rfl ⟨rfl, rfl⟩ (rdVia 0 rfl (Rd.own (o := false) (o' := false))) op.on.toNat hi.symm z38 (fun ad5 => ?_)
   refine BothW.mk ?_ ?_
   all_goals
     refine d_call _ cl134 rfl rfl rfl rfl ⟨rfl, rfl⟩ (fun A w hW => acquireS_c _ _ _ _ w ⟨hW.get 9 rfl (.ofO (rdSem y _ hil)), trivial⟩ ok r.thr hq a1 a2) ?_
     rw [hres]
     rintro v L ⟨q1, rfl, rfl⟩
     refine stop_idxW encSemH 4 tabOk rfl rfl rfl rfl rfl ⟨rfl, rfl⟩ rfl z83 op.on.toNat hi.symm hil (fun gg hgg => ?_)
     refine stop_storeW encSemH 4 tabOk rfl rfl rfl rfl rfl rfl rfl rfl hgg op.on.toNat 0 ⟨x1, q1⟩ rfl hil rfl (cSemH ⟨x1, q1⟩) (fun _ => rfl) z68 ?_
     apply CaseB.mk <;> intro g
     · have e5 : ¬ b1 = true := by have e : b1 = false := z91; rw [e]; decide
       refine stop_idxW encInt 4 tabOk rfl rfl rfl rfl rfl ⟨rfl, rfl⟩ rfl rfl k rfl (by omega) (fun gs hgs => ?_)
       refine stop_storeW encInt 4 tabOk rfl rfl rfl rfl rfl rfl rfl rfl hgs k 0 1 rfl (by omega) rfl [.int .i64 1] (fun _ => rfl) rfl ?_
       have hlp : (waitM (y.pure) k 1).places.length = y.places.length := rfl
       have hls : (waitM (y.pure) k 1).status.length = y.status.length := ((List.length_set ..).trans rfl)
       obtain ⟨y9, hy9⟩ : ∃ y9 : StateH, y9 = ⟨(waitM (y.pure) k 1).places, (waitM (y.pure) k 1).status, (y.sems.set op.on.toNat ⟨x1, q1⟩), y.onces, y.groups, y.barriers, y.chans, y.said, y.fault, y.h0, y.h1, y.h2, y.h3, y.h4, y.h5, y.h6, y.h7⟩ := ⟨_, rfl⟩
       have hP : y9.pure = doOp P.pure y.pure k op := by
         rw [doOp, if_neg (by omega), if_pos hk, doAcquire, hxa, hres]
         show _ = if b1 = true then onM P.pure [(k : Int)] (setSem y.pure op x1) else waitM (setSem y.pure op x1) k 1
         rw [if_neg e5, hy9]
         simp only [StateH.pure, setSem, List.map_set, waitM]
       have hv : stateV y9 = .agg #[y.h0.val y.places.length, y.h1.val y.status.length, y.h2.val y.sems.length, y.h3.val y.onces.length, y.h4.val y.groups.length, y.h5.val y.barriers.length, y.h6.val y.chans.length, (y.h7).val (y.said).length, .int .i64 y.fault] := by
         rw [hy9]; simp only [stateV, hlp, hls, List.length_set]
       refine ret_shift (Shift.pack (G := stateO y9) (stateN y9 (by rw [hy9]; exact outIn 4 0 1 5 6 7 8 9 rfl rfl rfl rfl rfl rfl rfl rfl) (by rw [hy9]; exact fun g hg => (inner_sem hg).elim (fun h => inON 10 rfl h) (fun h => by obtain rfl := List.mem_singleton.1 h; exact inFN 2 rfl rfl)))) ?_
       exact retG [0] ⟨y9, hv.symm, hP, rfl⟩ z133 rfl ⟨rfl, trivial⟩ (fun _ => rfl)
     have e5 : b1 = true := by simpa using g
     refine draw_start tabOk z95 z95 z95 200 [((0, 0), .v (P.h0.val P.sems.length)), ((0, 1), .v (P.h1.val P.groups.length)), ((0, 2), .v (P.h2.val P.barriers.length)), ((0, 3), .v (P.h3.val P.rooms.length)), ((0, 4), .v (P.h4.val P.threads.length)), ((1, 0), .v (y.h0.val y.places.length)), ((1, 1), .v (y.h1.val y.status.length)), ((1, 2), .v (y.h2.val y.sems.length)), ((1, 3), .v (y.h3.val y.onces.length)), ((1, 4), .v (y.h4.val y.groups.length)), ((1, 5), .v (y.h5.val y.barriers.length)), ((1, 6), .v (y.h6.val y.chans.length)), ((1, 7), .v ((y.h7).val (y.said).length)), ((1, 8), .v (.int .i64 y.fault))] [] [] z99 z103 trivial rfl ?_
     refine AllSl.mk fun zk => ?_
     refine d_app (ti := tiOf tab) encInt 3 tabOk (xs := ([] : List Int)) (ys := [(k : Int)]) rfl rfl rfl rfl rfl rfl rfl rfl rfl (by decide) ⟨rfl, rfl⟩ rfl z30 z38 z38 z93 (fun z5 => ?_)
     refine d_callG _ [4, 5] (G := [_, _]) cl141 rfl rfl rfl rfl ⟨rfl, rfl⟩ ⟨rfl, rfl, trivial⟩ ⟨rfl, rfl, rfl, rfl, trivial⟩ z93 (fun A w hW => (l7On_c _ _ P y _ _ z5 ([(k : Int)]) (y.pure) w (hW.atG [4, 5] (G := [_, _]) ⟨rfl, rfl, trivial⟩ rfl ⟨rfl, rfl, rfl, rfl, trivial⟩ [12, 0] (Fo := [_, _]) z131 rfl) rfl rfl hnm hn hw1 (by simp) hpA hn4)) ?_
     rintro v L ⟨rfl, rfl⟩
     have hlp : (onM P.pure ([(k : Int)]) (y.pure)).places.length = y.places.length := ((onM_len _ _ _).1.trans rfl)
     have hls : (onM P.pure ([(k : Int)]) (y.pure)).status.length = y.status.length := ((onM_len _ _ _).2.trans rfl)
     obtain ⟨y9, hy9⟩ : ∃ y9 : StateH, y9 = ⟨(onM P.pure ([(k : Int)]) (y.pure)).places, (onM P.pure ([(k : Int)]) (y.pure)).status, (y.sems.set op.on.toNat ⟨x1, q1⟩), y.onces, y.groups, y.barriers, y.chans, y.said, y.fault, y.h0, y.h1, y.h2, y.h3, y.h4, y.h5, y.h6, y.h7⟩ := ⟨_, rfl⟩
     have hP : y9.pure = doOp P.pure y.pure k op := by
       rw [doOp, if_neg (by omega), if_pos hk, doAcquire, hxa, hres]
       show _ = if b1 = true then onM P.pure [(k : Int)] (setSem y.pure op x1) else waitM (setSem y.pure op x1) k 1
       rw [if_pos e5, onM_eq P.pure [(k : Int)] y.pure (setSem y.pure op x1) rfl rfl, hy9]
       simp only [StateH.pure, setSem, List.map_set]
     have hv : stateV y9 = .agg #[y.h0.val y.places.length, y.h1.val y.status.length, y.h2.val y.sems.length, y.h3.val y.onces.length, y.h4.val y.groups.length, y.h5.val y.barriers.length, y.h6.val y.chans.length, (y.h7).val (y.said).length, .int .i64 y.fault] := by
       rw [hy9]; simp only [stateV, hlp, hls, List.length_set]
     refine ret_shift (Shift.pack (G := stateO y9) (stateN y9 (by rw [hy9]; exact outIn 0 1 4 6 7 8 9 10 rfl rfl rfl rfl rfl rfl rfl rfl) (by rw [hy9]; exact fun g hg => (inner_sem hg).elim (fun h => inON 11 rfl h) (fun h => by obtain rfl := List.mem_singleton.1 h; exact inFN 5 rfl rfl)))) ?_
     exact retG [0] ⟨y9, hv.symm, hP, rfl⟩ z133 rfl ⟨rfl, trivial⟩ (fun _ => rfl)
 refine CaseB.mk (fun g => ?_) (fun g3 => ?_)
 · have hk : op.kind = 3 := by simpa using g
   obtain ⟨x, hx, hxa, ok, a1, a2, hi⟩ := r.sem (.inr hk)
   have hil : op.on.toNat < y.sems.length := by have := (List.getElem?_eq_some_iff.1 hx).1; simpa [StateH.pure] using this
   have hxe : (y.sems[op.on.toNat]'hil).m = x := by have := hx; simp only [StateH.pure, List.getElem?_map, List.getElem?_eq_getElem hil, Option.map_some, Option.some.injEq] at this; exact this
   subst hxe
   have hnq := fun u (h : ofKey (events y.pure) u = []) => (swap_sems hx (y.sems[op.on.toNat]).m).none h
   rcases hres : (y.sems[op.on.toNat]'hil).m.release op.arg with _ | ⟨x1, told⟩
   · skip
     refine draw_start tabOk z95 z95 z95 200 [((1, 2), .v (y.h2.val y.sems.length)), ((3, 1), .v (.int .i64 op.on)), ((3, 2), .v (.int .i64 op.arg))] [3] [_] z118 z130 ⟨rfl, trivial⟩ rfl ?_
     refine d_idx (ti := tiOf tab) encSemH tabOk rfl rfl rfl rfl rfl ⟨rfl, rfl⟩ (rdVia 0 rfl (Rd.own (o := false) (o' := false))) op.on.toNat hi.symm z38 (fun ad5 => ?_)
     refine BothW.mk ?_ ?_
     all_goals
       refine d_call _ cl135 rfl rfl rfl rfl ⟨rfl, rfl⟩ (fun A w hW => releaseS_c _ _ _ w ⟨hW.get 9 rfl (.ofO (rdSem y _ hil)), trivial⟩ ok a1 a2) ?_
       rw [hres]
       rintro v L ⟨q1, z1, rfl, rfl⟩
       refine CaseB.mk (fun _ => ?_) (fun g => by simp at g)
       refine stop_call _ cl136 rfl rfl rfl rfl ⟨rfl, rfl⟩ (fun A w hW => l7Stop_c y 1 w) ?_
       rintro v L ⟨rfl, rfl⟩
       have hlp : (y.pure).places.length = y.places.length := rfl
       have hls : (y.pure).status.length = y.status.length := rfl
       obtain ⟨y9, hy9⟩ : ∃ y9 : StateH, y9 = ⟨(y.pure).places, (y.pure).status, y.sems, y.onces, y.groups, y.barriers, y.chans, y.said, 1, y.h0, y.h1, y.h2, y.h3, y.h4, y.h5, y.h6, y.h7⟩ := ⟨_, rfl⟩
       have hP : y9.pure = doOp P.pure y.pure k op := by
         rw [doOp, if_neg (by omega), if_neg (by omega), if_pos hk, doRelease, hxa, hres, hy9]
         rfl
       have hv : stateV y9 = .agg #[y.h0.val y.places.length, y.h1.val y.status.length, y.h2.val y.sems.length, y.h3.val y.onces.length, y.h4.val y.groups.length, y.h5.val y.barriers.length, y.h6.val y.chans.length, (y.h7).val (y.said).length, .int .i64 1] := by
         rw [hy9]; simp only [stateV, hlp, hls]
       refine ret_shift (Shift.pack (G := stateO y9) (stateN y9 z61 z75)) ?_
       exact retG [0] ⟨y9, hv.symm, hP, rfl⟩ z133 rfl ⟨rfl, trivial⟩ (fun _ => rfl)
   have htin := release_told ok a1 hres
   have htl : told.length ≤ 100 := by omega
   have htold : ∀ u ∈ told, 0 ≤ u ∧ u < (y.places.length : Int) := fun u hu => by
     have := r.ft.isIn fun h0 => ofKey_map_nil.1 (hnq u h0) (htin.1 u hu)
     rw [lt] at this
     omega
   have htk : ∀ u ∈ told ++ [(k : Int)], 0 ≤ u ∧ u < (y.places.length : Int) := fun u hu => by
     rcases List.mem_append.1 hu with hu | hu
     · exact htold u hu
     · exact hw1 u hu
   refine draw_start tabOk z95 z95 z95 200 [((1, 2), .v (y.h2.val y.sems.length)), ((3, 1), .v (.int .i64 op.on)), ((3, 2), .v (.int .i64 op.arg))] [3] [_] z118 z130 ⟨rfl, trivial⟩ rfl ?_
   refine d_idx (ti := tiOf tab) encSemH tabOk rfl rfl rfl rfl rfl ⟨rfl, rfl⟩ (rdVia 0 rfl (Rd.own (o := false) (o' := false))) op.on.toNat hi.symm z38 (fun ad5 => ?_)
   refine BothW.mk ?_ ?_
   all_goals
     refine d_call _ cl135 rfl rfl rfl rfl ⟨rfl, rfl⟩ (fun A w hW => releaseS_c _ _ _ w ⟨hW.get 9 rfl (.ofO (rdSem y _ hil)), trivial⟩ ok a1 a2) ?_
     rw [hres]
     rintro v L ⟨q1, z1, rfl, rfl⟩
     refine CaseB.mk (fun g => by simp at g) (fun _ => ?_)
     refine stop_idxW encSemH 5 tabOk rfl rfl rfl rfl rfl ⟨rfl, rfl⟩ rfl z83 op.on.toNat hi.symm hil (fun gg hgg => ?_)
     refine stop_storeW encSemH 5 tabOk rfl rfl rfl rfl rfl rfl rfl rfl hgg op.on.toNat 0 ⟨x1, q1⟩ rfl hil rfl (cSemH ⟨x1, q1⟩) (fun _ => rfl) z68 ?_
     refine draw_start tabOk z95 z95 z95 200 [((0, 0), .v (P.h0.val P.sems.length)), ((0, 1), .v (P.h1.val P.groups.length)), ((0, 2), .v (P.h2.val P.barriers.length)), ((0, 3), .v (P.h3.val P.rooms.length)), ((0, 4), .v (P.h4.val P.threads.length)), ((1, 0), .v (y.h0.val y.places.length)), ((1, 1), .v (y.h1.val y.status.length)), ((1, 2), .v (y.h2.val y.sems.length)), ((1, 3), .v (y.h3.val y.onces.length)), ((1, 4), .v (y.h4.val y.groups.length)), ((1, 5), .v (y.h5.val y.barriers.length)), ((1, 6), .v (y.h6.val y.chans.length)), ((1, 7), .v ((y.h7).val (y.said).length)), ((1, 8), .v (.int .i64 y.fault))] [] [] z99 z103 trivial rfl ?_
     refine AllSl.mk fun zk => ?_
     refine d_app (ti := tiOf tab) encInt 3 tabOk (xs := told) (ys := [(k : Int)]) rfl rfl rfl rfl rfl rfl rfl rfl rfl (by decide) ⟨rfl, rfl⟩ rfl z30 z38 z38 z93 (fun z5 => ?_)
     refine d_callG _ [5, 6] (G := [_, _]) cl141 rfl rfl rfl rfl ⟨rfl, rfl⟩ ⟨rfl, rfl, trivial⟩ ⟨rfl, rfl, rfl, rfl, trivial⟩ z93 (fun A w hW => (l7On_c _ _ P y _ _ z5 (told ++ [(k : Int)]) (y.pure) w (hW.atG [5, 6] (G := [_, _]) ⟨rfl, rfl, trivial⟩ rfl ⟨rfl, rfl, rfl, rfl, trivial⟩ [13, 0] (Fo := [_, _]) z131 rfl) rfl rfl hnm hn htk z94 hpA hn4)) ?_
     rintro v L ⟨rfl, rfl⟩
     have hlp : (onM P.pure (told ++ [(k : Int)]) (y.pure)).places.length = y.places.length := ((onM_len _ _ _).1.trans rfl)
     have hls : (onM P.pure (told ++ [(k : Int)]) (y.pure)).status.length = y.status.length := ((onM_len _ _ _).2.trans rfl)
     obtain ⟨y9, hy9⟩ : ∃ y9 : StateH, y9 = ⟨(onM P.pure (told ++ [(k : Int)]) (y.pure)).places, (onM P.pure (told ++ [(k : Int)]) (y.pure)).status, (y.sems.set op.on.toNat ⟨x1, q1⟩), y.onces, y.groups, y.barriers, y.chans, y.said, y.fault, y.h0, y.h1, y.h2, y.h3, y.h4, y.h5, y.h6, y.h7⟩ := ⟨_, rfl⟩
     have hP : y9.pure = doOp P.pure y.pure k op := by
       rw [doOp, if_neg (by omega), if_neg (by omega), if_pos hk, doRelease, hxa, hres]
       show _ = onM P.pure (told ++ [(k : Int)]) (setSem y.pure op x1)
       rw [onM_eq P.pure (told ++ [(k : Int)]) y.pure (setSem y.pure op x1) rfl rfl, hy9]
       simp only [StateH.pure, setSem, List.map_set]
     have hv : stateV y9 = .agg #[y.h0.val y.places.length, y.h1.val y.status.length, y.h2.val y.sems.length, y.h3.val y.onces.length, y.h4.val y.groups.length, y.h5.val y.barriers.length, y.h6.val y.chans.length, (y.h7).val (y.said).length, .int .i64 y.fault] := by
       rw [hy9]; simp only [stateV, hlp, hls, List.length_set]
     refine ret_shift (Shift.pack (G := stateO y9) (stateN y9 (by rw [hy9]; exact outIn 0 1 4 7 8 9 10 11 rfl rfl rfl rfl rfl rfl rfl rfl) (by rw [hy9]; exact fun g hg => (inner_sem hg).elim (fun h => inON 12 rfl h) (fun h => by obtain rfl := List.mem_singleton.1 h; exact inFN 5 rfl rfl)))) ?_
     exact retG [0] ⟨y9, hv.symm, hP, rfl⟩ z133 rfl ⟨rfl, trivial⟩ (fun _ => rfl)
 refine CaseB.mk (fun g => ?_) (fun g4 => ?_)
 · have hk : op.kind = 4 := by simpa using g
   refine stop_callG _ [1, 2, 3, 4, 5, 6, 7, 8, 9] (G := [_, _, _, _, _, _, _, _, _]) cl137 rfl rfl rfl rfl ⟨rfl, rfl⟩ z123 z109 (fun A w hW => (l7Once_c P y k op r hk w (hW.atG [1, 2, 3, 4, 5, 6, 7, 8, 9] (G := [_, _, _, _, _, _, _, _, _]) z123 rfl z109 [10] (Fo := [_]) z137 rfl))) ?_
   rintro v L ⟨y2, rfl, hy2, rfl⟩
   exact retG [0] ⟨y2, rfl, hy2, rfl⟩ z133 rfl ⟨rfl, trivial⟩ (fun _ => rfl)
 refine CaseB.mk (fun g => ?_) (fun g5 => ?_)
 · have hk : op.kind = 5 := by simpa using g
   obtain ⟨x, hx, hxa, ok, ha, hi⟩ := r.group (.inl hk)
   have hil : op.on.toNat < y.groups.length := by have := (List.getElem?_eq_some_iff.1 hx).1; simpa [StateH.pure] using this
   have hxe : (y.groups[op.on.toNat]'hil).m = x := by have := hx; simp only [StateH.pure, List.getElem?_map, List.getElem?_eq_getElem hil, Option.map_some, Option.some.injEq] at this; exact this
   subst hxe
   have hnq := fun u (h : ofKey (events y.pure) u = []) => (swap_groups hx (y.groups[op.on.toNat]).m).none h
   rcases hres : (y.groups[op.on.toNat]'hil).m.add op.arg with _ | ⟨x1, told⟩
   · skip
     refine draw_start tabOk z95 z95 z95 200 [((1, 4), .v (y.h4.val y.groups.length)), ((3, 1), .v (.int .i64 op.on)), ((3, 2), .v (.int .i64 op.arg))] [5] [_] z118 z130 ⟨rfl, trivial⟩ rfl ?_
     refine d_idx (ti := tiOf tab) encGroupH tabOk rfl rfl rfl rfl rfl ⟨rfl, rfl⟩ (rdVia 0 rfl (Rd.own (o := false) (o' := false))) op.on.toNat hi.symm z38 (fun ad5 => ?_)
     refine BothW.mk ?_ ?_
     all_goals
       refine d_call _ cl138 rfl rfl rfl rfl ⟨rfl, rfl⟩ (fun A w hW => addS_c _ _ _ w ⟨hW.get 9 rfl (.ofO (rdGroup y _ hil)), trivial⟩ ok (ha hk).1 (ha hk).2) ?_
       rw [hres]
       rintro v L ⟨q1, z1, rfl, rfl⟩
       refine CaseB.mk (fun _ => ?_) (fun g => by simp at g)
       refine stop_call _ cl136 rfl rfl rfl rfl ⟨rfl, rfl⟩ (fun A w hW => l7Stop_c y 2 w) ?_
       rintro v L ⟨rfl, rfl⟩
       have hlp : (y.pure).places.length = y.places.length := rfl
       have hls : (y.pure).status.length = y.status.length := rfl
       obtain ⟨y9, hy9⟩ : ∃ y9 : StateH, y9 = ⟨(y.pure).places, (y.pure).status, y.sems, y.onces, y.groups, y.barriers, y.chans, y.said, 2, y.h0, y.h1, y.h2, y.h3, y.h4, y.h5, y.h6, y.h7⟩ := ⟨_, rfl⟩
       have hP : y9.pure = doOp P.pure y.pure k op := by
         rw [doOp, if_neg (by omega), if_neg (by omega), if_neg (by omega), if_neg (by omega), if_pos hk, doAdd, hxa, hres, hy9]
         rfl
       have hv : stateV y9 = .agg #[y.h0.val y.places.length, y.h1.val y.status.length, y.h2.val y.sems.length, y.h3.val y.onces.length, y.h4.val y.groups.length, y.h5.val y.barriers.length, y.h6.val y.chans.length, (y.h7).val (y.said).length, .int .i64 2] := by
         rw [hy9]; simp only [stateV, hlp, hls]
       refine ret_shift (Shift.pack (G := stateO y9) (stateN y9 z61 z75)) ?_
       exact retG [0] ⟨y9, hv.symm, hP, rfl⟩ z133 rfl ⟨rfl, trivial⟩ (fun _ => rfl)
   have htin := add_told ok hres
   have htl : told.length ≤ 100 := by omega
   have htold : ∀ u ∈ told, 0 ≤ u ∧ u < (y.places.length : Int) := fun u hu => by
     have := r.ft.isIn fun h0 => (ofKey_map_nil (g := fun t : Int => t)).1 (hnq u h0) (by simpa using htin.1 u hu)
     rw [lt] at this
     omega
   have htk : ∀ u ∈ told ++ [(k : Int)], 0 ≤ u ∧ u < (y.places.length : Int) := fun u hu => by
     rcases List.mem_append.1 hu with hu | hu
     · exact htold u hu
     · exact hw1 u hu
   refine draw_start tabOk z95 z95 z95 200 [((1, 4), .v (y.h4.val y.groups.length)), ((3, 1), .v (.int .i64 op.on)), ((3, 2), .v (.int .i64 op.arg))] [5] [_] z118 z130 ⟨rfl, trivial⟩ rfl ?_
   refine d_idx (ti := tiOf tab) encGroupH tabOk rfl rfl rfl rfl rfl ⟨rfl, rfl⟩ (rdVia 0 rfl (Rd.own (o := false) (o' := false))) op.on.toNat hi.symm z38 (fun ad5 => ?_)
   refine BothW.mk ?_ ?_
   all_goals
     refine d_call _ cl138 rfl rfl rfl rfl ⟨rfl, rfl⟩ (fun A w hW => addS_c _ _ _ w ⟨hW.get 9 rfl (.ofO (rdGroup y _ hil)), trivial⟩ ok (ha hk).1 (ha hk).2) ?_
     rw [hres]
     rintro v L ⟨q1, z1, rfl, rfl⟩
     refine CaseB.mk (fun g => by simp at g) (fun _ => ?_)
     refine stop_idxW encGroupH 7 tabOk rfl rfl rfl rfl rfl ⟨rfl, rfl⟩ rfl z83 op.on.toNat hi.symm hil (fun gg hgg => ?_)
     refine stop_storeW encGroupH 7 tabOk rfl rfl rfl rfl rfl rfl rfl rfl hgg op.on.toNat 0 ⟨x1, q1⟩ rfl hil rfl (cGroupH ⟨x1, q1⟩) (fun _ => rfl) z68 ?_
     refine draw_start tabOk z95 z95 z95 200 [((0, 0), .v (P.h0.val P.sems.length)), ((0, 1), .v (P.h1.val P.groups.length)), ((0, 2), .v (P.h2.val P.barriers.length)), ((0, 3), .v (P.h3.val P.rooms.length)), ((0, 4), .v (P.h4.val P.threads.length)), ((1, 0), .v (y.h0.val y.places.length)), ((1, 1), .v (y.h1.val y.status.length)), ((1, 2), .v (y.h2.val y.sems.length)), ((1, 3), .v (y.h3.val y.onces.length)), ((1, 4), .v (y.h4.val y.groups.length)), ((1, 5), .v (y.h5.val y.barriers.length)), ((1, 6), .v (y.h6.val y.chans.length)), ((1, 7), .v ((y.h7).val (y.said).length)), ((1, 8), .v (.int .i64 y.fault))] [] [] z99 z103 trivial rfl ?_
     refine AllSl.mk fun zk => ?_
     refine d_app (ti := tiOf tab) encInt 3 tabOk (xs := told) (ys := [(k : Int)]) rfl rfl rfl rfl rfl rfl rfl rfl rfl (by decide) ⟨rfl, rfl⟩ rfl z30 z38 z38 z93 (fun z5 => ?_)
     refine d_callG _ [5, 6] (G := [_, _]) cl141 rfl rfl rfl rfl ⟨rfl, rfl⟩ ⟨rfl, rfl, trivial⟩ ⟨rfl, rfl, rfl, rfl, trivial⟩ z93 (fun A w hW => (l7On_c _ _ P y _ _ z5 (told ++ [(k : Int)]) (y.pure) w (hW.atG [5, 6] (G := [_, _]) ⟨rfl, rfl, trivial⟩ rfl ⟨rfl, rfl, rfl, rfl, trivial⟩ [13, 0] (Fo := [_, _]) z131 rfl) rfl rfl hnm hn htk z94 hpA hn4)) ?_
     rintro v L ⟨rfl, rfl⟩
     have hlp : (onM P.pure (told ++ [(k : Int)]) (y.pure)).places.length = y.places.length := ((onM_len _ _ _).1.trans rfl)
     have hls : (onM P.pure (told ++ [(k : Int)]) (y.pure)).status.length = y.status.length := ((onM_len _ _ _).2.trans rfl)
     obtain ⟨y9, hy9⟩ : ∃ y9 : StateH, y9 = ⟨(onM P.pure (told ++ [(k : Int)]) (y.pure)).places, (onM P.pure (told ++ [(k : Int)]) (y.pure)).status, y.sems, y.onces, (y.groups.set op.on.toNat ⟨x1, q1⟩), y.barriers, y.chans, y.said, y.fault, y.h0, y.h1, y.h2, y.h3, y.h4, y.h5, y.h6, y.h7⟩ := ⟨_, rfl⟩
     have hP : y9.pure = doOp P.pure y.pure k op := by
       rw [doOp, if_neg (by omega), if_neg (by omega), if_neg (by omega), if_neg (by omega), if_pos hk, doAdd, hxa, hres]
       show _ = onM P.pure (told ++ [(k : Int)]) (setGroup y.pure op x1)
       rw [onM_eq P.pure (told ++ [(k : Int)]) y.pure (setGroup y.pure op x1) rfl rfl, hy9]
       simp only [StateH.pure, setGroup, List.map_set]
     have hv : stateV y9 = .agg #[y.h0.val y.places.length, y.h1.val y.status.length, y.h2.val y.sems.length, y.h3.val y.onces.length, y.h4.val y.groups.length, y.h5.val y.barriers.length, y.h6.val y.chans.length, (y.h7).val (y.said).length, .int .i64 y.fault] := by
       rw [hy9]; simp only [stateV, hlp, hls, List.length_set]
     refine ret_shift (Shift.pack (G := stateO y9) (stateN y9 (by rw [hy9]; exact outIn 0 1 7 8 4 9 10 11 rfl rfl rfl rfl rfl rfl rfl rfl) (by rw [hy9]; exact fun g hg => (inner_group hg).elim (fun h => inON 12 rfl h) (fun h => by obtain rfl := List.mem_singleton.1 h; exact inFN 5 rfl rfl)))) ?_
     exact retG [0] ⟨y9, hv.symm, hP, rfl⟩ z133 rfl ⟨rfl, trivial⟩ (fun _ => rfl)
 refine CaseB.mk (fun g => ?_) (fun g6 => ?_)
 · have hk : op.kind = 6 := by simpa using g
   obtain ⟨x, hx, hxa, ok, ha, hi⟩ := r.group (.inr hk)
   have hil : op.on.toNat < y.groups.length := by have := (List.getElem?_eq_some_iff.1 hx).1; simpa [StateH.pure] using this
   have hxe : (y.groups[op.on.toNat]'hil).m = x := by have := hx; simp only [StateH.pure, List.getElem?_map, List.getElem?_eq_getElem hil, Option.map_some, Option.some.injEq] at this; exact this
   subst hxe
   have hnq := fun u (h : ofKey (events y.pure) u = []) => (swap_groups hx (y.groups[op.on.toNat]).m).none h
   have hq : (k : Int) ∉ (y.groups[op.on.toNat]'hil).m.waits := by simpa using (ofKey_map_nil (g := fun t : Int => t)).1 (hnq _ r.ev)
   obtain ⟨x1, b1, hres⟩ : ∃ x1 b1, (y.groups[op.on.toNat]'hil).m.wait k = (x1, b1) := ⟨_, _, rfl⟩
   refine stop_idx encGroupH tabOk rfl rfl rfl rfl rfl ⟨rfl, rfl⟩ (rdVia 5 rfl (Rd.own (o := false) (o' := false))) op.on.toNat hi.symm z38 (fun ad5 => ?_)
   refine stop_call _ cl139 rfl rfl rfl rfl ⟨rfl, rfl⟩ (fun A w hW => waitS_c _ _ _ w ⟨hW.get 9 rfl (.ofO (rdGroup y _ hil)), trivial⟩ ok r.thr hq) ?_
   rw [hres]
   rintro v L ⟨q1, rfl, rfl⟩
   refine stop_idxW encGroupH 6 tabOk rfl rfl rfl rfl rfl ⟨rfl, rfl⟩ rfl z83 op.on.toNat hi.symm hil (fun gg hgg => ?_)
   refine stop_storeW encGroupH 6 tabOk rfl rfl rfl rfl rfl rfl rfl rfl hgg op.on.toNat 0 ⟨x1, q1⟩ rfl hil rfl (cGroupH ⟨x1, q1⟩) (fun _ => rfl) z68 ?_
   apply CaseB.mk <;> intro g
   · have e5 : ¬ b1 = true := by have e : b1 = false := z91; rw [e]; decide
     refine stop_idxW encInt 4 tabOk rfl rfl rfl rfl rfl ⟨rfl, rfl⟩ rfl rfl k rfl (by omega) (fun gs hgs => ?_)
     refine stop_storeW encInt 4 tabOk rfl rfl rfl rfl rfl rfl rfl rfl hgs k 0 1 rfl (by omega) rfl [.int .i64 1] (fun _ => rfl) rfl ?_
     have hlp : (waitM (y.pure) k 1).places.length = y.places.length := rfl
     have hls : (waitM (y.pure) k 1).status.length = y.status.length := ((List.length_set ..).trans rfl)
     obtain ⟨y9, hy9⟩ : ∃ y9 : StateH, y9 = ⟨(waitM (y.pure) k 1).places, (waitM (y.pure) k 1).status, y.sems, y.onces, (y.groups.set op.on.toNat ⟨x1, q1⟩), y.barriers, y.chans, y.said, y.fault, y.h0, y.h1, y.h2, y.h3, y.h4, y.h5, y.h6, y.h7⟩ := ⟨_, rfl⟩
     have hP : y9.pure = doOp P.pure y.pure k op := by
       rw [doOp, if_neg (by omega), if_neg (by omega), if_neg (by omega), if_neg (by omega), if_neg (by omega), if_pos hk, doWait, hxa, hres]
       show _ = if b1 = true then onM P.pure [(k : Int)] (setGroup y.pure op x1) else waitM (setGroup y.pure op x1) k 1
       rw [if_neg e5, hy9]
       simp only [StateH.pure, setGroup, List.map_set, waitM]
     have hv : stateV y9 = .agg #[y.h0.val y.places.length, y.h1.val y.status.length, y.h2.val y.sems.length, y.h3.val y.onces.length, y.h4.val y.groups.length, y.h5.val y.barriers.length, y.h6.val y.chans.length, (y.h7).val (y.said).length, .int .i64 y.fault] := by
       rw [hy9]; simp only [stateV, hlp, hls, List.length_set]
     refine ret_shift (Shift.pack (G := stateO y9) (stateN y9 (by rw [hy9]; exact outIn 4 0 5 6 1 7 8 9 rfl rfl rfl rfl rfl rfl rfl rfl) (by rw [hy9]; exact fun g hg => (inner_group hg).elim (fun h => inON 10 rfl h) (fun h => by obtain rfl := List.mem_singleton.1 h; exact inFN 2 rfl rfl)))) ?_
     exact retG [0] ⟨y9, hv.symm, hP, rfl⟩ z133 rfl ⟨rfl, trivial⟩ (fun _ => rfl)
   have e5 : b1 = true := by simpa using g
   refine draw_start tabOk z95 z95 z95 200 [((0, 0), .v (P.h0.val P.sems.length)), ((0, 1), .v (P.h1.val P.groups.length)), ((0, 2), .v (P.h2.val P.barriers.length)), ((0, 3), .v (P.h3.val P.rooms.length)), ((0, 4), .v (P.h4.val P.threads.length)), ((1, 0), .v (y.h0.val y.places.length)), ((1, 1), .v (y.h1.val y.status.length)), ((1, 2), .v (y.h2.val y.sems.length)), ((1, 3), .v (y.h3.val y.onces.length)), ((1, 4), .v (y.h4.val y.groups.length)), ((1, 5), .v (y.h5.val y.barriers.length)), ((1, 6), .v (y.h6.val y.chans.length)), ((1, 7), .v ((y.h7).val (y.said).length)), ((1, 8), .v (.int .i64 y.fault))] [] [] z99 z103 trivial rfl ?_
   refine AllSl.mk fun zk => ?_
   refine d_app (ti := tiOf tab) encInt 3 tabOk (xs := ([] : List Int)) (ys := [(k : Int)]) rfl rfl rfl rfl rfl rfl rfl rfl rfl (by decide) ⟨rfl, rfl⟩ rfl z30 z38 z38 z93 (fun z5 => ?_)
   refine d_callG _ [4, 5] (G := [_, _]) cl141 rfl rfl rfl rfl ⟨rfl, rfl⟩ ⟨rfl, rfl, trivial⟩ ⟨rfl, rfl, rfl, rfl, trivial⟩ z93 (fun A w hW => (l7On_c _ _ P y _ _ z5 ([(k : Int)]) (y.pure) w (hW.atG [4, 5] (G := [_, _]) ⟨rfl, rfl, trivial⟩ rfl ⟨rfl, rfl, rfl, rfl, trivial⟩ [12, 0] (Fo := [_, _]) z131 rfl) rfl rfl hnm hn hw1 (by simp) hpA hn4)) ?_
   rintro v L ⟨rfl, rfl⟩
   have hlp : (onM P.pure ([(k : Int)]) (y.pure)).places.length = y.places.length := ((onM_len _ _ _).1.trans rfl)
   have hls : (onM P.pure ([(k : Int)]) (y.pure)).status.length = y.status.length := ((onM_len _ _ _).2.trans rfl)
   obtain ⟨y9, hy9⟩ : ∃ y9 : StateH, y9 = ⟨(onM P.pure ([(k : Int)]) (y.pure)).places, (onM P.pure ([(k : Int)]) (y.pure)).status, y.sems, y.onces, (y.groups.set op.on.toNat ⟨x1, q1⟩), y.barriers, y.chans, y.said, y.fault, y.h0, y.h1, y.h2, y.h3, y.h4, y.h5, y.h6, y.h7⟩ := ⟨_, rfl⟩
   have hP : y9.pure = doOp P.pure y.pure k op := by
     rw [doOp, if_neg (by omega), if_neg (by omega), if_neg (by omega), if_neg (by omega), if_neg (by omega), if_pos hk, doWait, hxa, hres]
     show _ = if b1 = true then onM P.pure [(k : Int)] (setGroup y.pure op x1) else waitM (setGroup y.pure op x1) k 1
     rw [if_pos e5, onM_eq P.pure [(k : Int)] y.pure (setGroup y.pure op x1) rfl rfl, hy9]
     simp only [StateH.pure, setGroup, List.map_set]
   have hv : stateV y9 = .agg #[y.h0.val y.places.length, y.h1.val y.status.length, y.h2.val y.sems.length, y.h3.val y.onces.length, y.h4.val y.groups.length, y.h5.val y.barriers.length, y.h6.val y.chans.length, (y.h7).val (y.said).length, .int .i64 y.fault] := by
     rw [hy9]; simp only [stateV, hlp, hls, List.length_set]
   refine ret_shift (Shift.pack (G := stateO y9) (stateN y9 (by rw [hy9]; exact outIn 0 1 6 7 4 8 9 10 rfl rfl rfl rfl rfl rfl rfl rfl) (by rw [hy9]; exact fun g hg => (inner_group hg).elim (fun h => inON 11 rfl h) (fun h => by obtain rfl := List.mem_singleton.1 h; exact inFN 5 rfl rfl)))) ?_
   exact retG [0] ⟨y9, hv.symm, hP, rfl⟩ z133 rfl ⟨rfl, trivial⟩ (fun _ => rfl)
 refine CaseB.mk (fun g => ?_) (fun g7 => ?_)
 · have hk : op.kind = 7 := by simpa using g
   obtain ⟨x, hx, hxa, ok, hi⟩ := r.barrier hk
   have hil : op.on.toNat < y.barriers.length := by have := (List.getElem?_eq_some_iff.1 hx).1; simpa [StateH.pure] using this
   have hxe : (y.barriers[op.on.toNat]'hil).m = x := by have := hx; simp only [StateH.pure, List.getElem?_map, List.getElem?_eq_getElem hil, Option.map_some, Option.some.injEq] at this; exact this
   subst hxe
   have hnq := fun u (h : ofKey (events y.pure) u = []) => (swap_barriers hx (y.barriers[op.on.toNat]).m).none h
   have hq : (k : Int) ∉ (y.barriers[op.on.toNat]'hil).m.waits := by simpa using (ofKey_map_nil (g := fun t : Int => t)).1 (hnq _ r.ev)
   refine stop_idx encBarrierH tabOk rfl rfl rfl rfl rfl ⟨rfl, rfl⟩ (rdVia 6 rfl (Rd.own (o := false) (o' := false))) op.on.toNat hi.symm z38 (fun ad5 => ?_)
   rcases hres : (y.barriers[op.on.toNat]'hil).m.arrive k with _ | ⟨x1, told⟩
   · refine stop_call _ cl140 rfl rfl rfl rfl ⟨rfl, rfl⟩ (fun A w hW => arriveS_c _ _ _ w ⟨hW.get 9 rfl (.ofO (rdBarrier y _ hil)), trivial⟩ ok r.thr hq) ?_
     rw [hres]
     rintro v L ⟨z1, rfl, rfl⟩
     refine stop_idxW encBarrierH 6 tabOk rfl rfl rfl rfl rfl ⟨rfl, rfl⟩ rfl z83 op.on.toNat hi.symm hil (fun gg hgg => ?_)
     refine stop_storeW encBarrierH 6 tabOk rfl rfl rfl rfl rfl rfl rfl rfl hgg op.on.toNat 0 ⟨⟨0, 0, []⟩, nil4⟩ rfl hil rfl (cBarrierH ⟨⟨0, 0, []⟩, nil4⟩) (fun _ => rfl) z68 ?_
     refine CaseB.mk (fun g => by simp at g) (fun _ => ?_)
     refine stop_idxW encInt 3 tabOk rfl rfl rfl rfl rfl ⟨rfl, rfl⟩ rfl rfl k rfl (by omega) (fun gs hgs => ?_)
     refine stop_storeW encInt 3 tabOk rfl rfl rfl rfl rfl rfl rfl rfl hgs k 0 1 rfl (by omega) rfl [.int .i64 1] (fun _ => rfl) rfl ?_
     have hlp : (waitM (y.pure) k 1).places.length = y.places.length := rfl
     have hls : (waitM (y.pure) k 1).status.length = y.status.length := ((List.length_set ..).trans rfl)
     obtain ⟨y9, hy9⟩ : ∃ y9 : StateH, y9 = ⟨(waitM (y.pure) k 1).places, (waitM (y.pure) k 1).status, y.sems, y.onces, y.groups, (y.barriers.set op.on.toNat ⟨⟨0, 0, []⟩, nil4⟩), y.chans, y.said, y.fault, y.h0, y.h1, y.h2, y.h3, y.h4, y.h5, y.h6, y.h7⟩ := ⟨_, rfl⟩
     have hP : y9.pure = doOp P.pure y.pure k op := by
       rw [doOp, if_neg (by omega), if_neg (by omega), if_neg (by omega), if_neg (by omega), if_neg (by omega), if_neg (by omega), if_pos hk, doArrive, hxa, hres, hy9]
       simp only [StateH.pure, setBarrier, List.map_set, waitM]
     have hv : stateV y9 = .agg #[y.h0.val y.places.length, y.h1.val y.status.length, y.h2.val y.sems.length, y.h3.val y.onces.length, y.h4.val y.groups.length, y.h5.val y.barriers.length, y.h6.val y.chans.length, (y.h7).val (y.said).length, .int .i64 y.fault] := by
       rw [hy9]; simp only [stateV, hlp, hls, List.length_set]
     refine ret_shift (Shift.pack (G := stateO y9) (stateN y9 (by rw [hy9]; exact outIn 3 0 4 5 6 1 7 8 rfl rfl rfl rfl rfl rfl rfl rfl) (by rw [hy9]; exact fun g hg => (inner_barrier hg).elim (fun h => inON 9 rfl h) (fun h => by obtain rfl := List.mem_singleton.1 h; exact nilN 9 rfl)))) ?_
     exact retG [0] ⟨y9, hv.symm, hP, rfl⟩ z133 rfl ⟨rfl, trivial⟩ (fun _ => rfl)
   have htin := arrive_told ok hres
   have htl : told.length ≤ 100 := by omega
   have htold : ∀ u ∈ told, 0 ≤ u ∧ u < (y.places.length : Int) := fun u hu => by
     by_cases hne : u = k
     · rw [hne]; exact hkn
     have := r.ft.isIn fun h0 => (htin.1 u hu).elim (fun hu => (ofKey_map_nil (g := fun t : Int => t)).1 (hnq u h0) (by simpa using hu)) (fun hu => hne hu)
     rw [lt] at this
     omega
   have htk : ∀ u ∈ told ++ [(k : Int)], 0 ≤ u ∧ u < (y.places.length : Int) := fun u hu => by
     rcases List.mem_append.1 hu with hu | hu
     · exact htold u hu
     · exact hw1 u hu
   refine stop_call _ cl140 rfl rfl rfl rfl ⟨rfl, rfl⟩ (fun A w hW => arriveS_c _ _ _ w ⟨hW.get 9 rfl (.ofO (rdBarrier y _ hil)), trivial⟩ ok r.thr hq) ?_
   rw [hres]
   rintro v L ⟨q1, z1, rfl, rfl⟩
   refine stop_idxW encBarrierH 8 tabOk rfl rfl rfl rfl rfl ⟨rfl, rfl⟩ rfl z83 op.on.toNat hi.symm hil (fun gg hgg => ?_)
   refine stop_storeW encBarrierH 8 tabOk rfl rfl rfl rfl rfl rfl rfl rfl hgg op.on.toNat 0 ⟨x1, q1⟩ rfl hil rfl (cBarrierH ⟨x1, q1⟩) (fun _ => rfl) z68 ?_
   apply CaseB.mk <;> intro g
   · have c0 : ¬ told = [] := fun e => by subst e; simp at g
     refine stop_callG _ [4, 5] (G := [_, _]) cl141 rfl rfl rfl rfl ⟨rfl, rfl⟩ ⟨rfl, rfl, trivial⟩ ⟨rfl, rfl, rfl, rfl, trivial⟩ (fun A w hW => (l7On_c _ _ P y _ _ _ (told) (y.pure) w (hW.atG [4, 5] (G := [_, _]) ⟨rfl, rfl, trivial⟩ rfl ⟨rfl, rfl, rfl, rfl, trivial⟩ [12, 2] (Fo := [_, _]) z131 rfl) rfl rfl hnm hn htold htl hpA hn4)) ?_
     rintro v L ⟨rfl, rfl⟩
     have hlp : (onM P.pure (told) (y.pure)).places.length = y.places.length := ((onM_len _ _ _).1.trans rfl)
     have hls : (onM P.pure (told) (y.pure)).status.length = y.status.length := ((onM_len _ _ _).2.trans rfl)
     obtain ⟨y9, hy9⟩ : ∃ y9 : StateH, y9 = ⟨(onM P.pure (told) (y.pure)).places, (onM P.pure (told) (y.pure)).status, y.sems, y.onces, y.groups, (y.barriers.set op.on.toNat ⟨x1, q1⟩), y.chans, y.said, y.fault, y.h0, y.h1, y.h2, y.h3, y.h4, y.h5, y.h6, y.h7⟩ := ⟨_, rfl⟩
     have hP : y9.pure = doOp P.pure y.pure k op := by
       rw [doOp, if_neg (by omega), if_neg (by omega), if_neg (by omega), if_neg (by omega), if_neg (by omega), if_neg (by omega), if_pos hk, doArrive, hxa, hres]
       show _ = if told = [] then waitM (setBarrier y.pure op x1) k 1 else onM P.pure told (setBarrier y.pure op x1)
       rw [if_neg c0, onM_eq P.pure told y.pure (setBarrier y.pure op x1) rfl rfl, hy9]
       simp only [StateH.pure, setBarrier, List.map_set]
     have hv : stateV y9 = .agg #[y.h0.val y.places.length, y.h1.val y.status.length, y.h2.val y.sems.length, y.h3.val y.onces.length, y.h4.val y.groups.length, y.h5.val y.barriers.length, y.h6.val y.chans.length, (y.h7).val (y.said).length, .int .i64 y.fault] := by
       rw [hy9]; simp only [stateV, hlp, hls, List.length_set]
     refine ret_shift (Shift.pack (G := stateO y9) (stateN y9 (by rw [hy9]; exact outIn 0 1 6 7 8 2 9 10 rfl rfl rfl rfl rfl rfl rfl rfl) (by rw [hy9]; exact fun g hg => (inner_barrier hg).elim (fun h => inON 11 rfl h) (fun h => by obtain rfl := List.mem_singleton.1 h; exact inFN 3 rfl rfl)))) ?_
     exact retG [0] ⟨y9, hv.symm, hP, rfl⟩ z133 rfl ⟨rfl, trivial⟩ (fun _ => rfl)
   have c0 : told = [] := List.eq_nil_of_length_eq_zero z79
   refine stop_idxW encInt 5 tabOk rfl rfl rfl rfl rfl ⟨rfl, rfl⟩ rfl rfl k rfl (by omega) (fun gs hgs => ?_)
   refine stop_storeW encInt 5 tabOk rfl rfl rfl rfl rfl rfl rfl rfl hgs k 0 1 rfl (by omega) rfl [.int .i64 1] (fun _ => rfl) rfl ?_
   have hlp : (waitM (y.pure) k 1).places.length = y.places.length := rfl
   have hls : (waitM (y.pure) k 1).status.length = y.status.length := ((List.length_set ..).trans rfl)
   obtain ⟨y9, hy9⟩ : ∃ y9 : StateH, y9 = ⟨(waitM (y.pure) k 1).places, (waitM (y.pure) k 1).status, y.sems, y.onces, y.groups, (y.barriers.set op.on.toNat ⟨x1, q1⟩), y.chans, y.said, y.fault, y.h0, y.h1, y.h2, y.h3, y.h4, y.h5, y.h6, y.h7⟩ := ⟨_, rfl⟩
   have hP : y9.pure = doOp P.pure y.pure k op := by
     rw [doOp, if_neg (by omega), if_neg (by omega), if_neg (by omega), if_neg (by omega), if_neg (by omega), if_neg (by omega), if_pos hk, doArrive, hxa, hres]
     show _ = if told = [] then waitM (setBarrier y.pure op x1) k 1 else onM P.pure told (setBarrier y.pure op x1)
     rw [if_pos c0, hy9]
     simp only [StateH.pure, setBarrier, List.map_set, waitM]
   have hv : stateV y9 = .agg #[y.h0.val y.places.length, y.h1.val y.status.length, y.h2.val y.sems.length, y.h3.val y.onces.length, y.h4.val y.groups.length, y.h5.val y.barriers.length, y.h6.val y.chans.length, (y.h7).val (y.said).length, .int .i64 y.fault] := by
     rw [hy9]; simp only [stateV, hlp, hls, List.length_set]
   refine ret_shift (Shift.pack (G := stateO y9) (stateN y9 (by rw [hy9]; exact outIn 5 0 6 7 8 1 9 10 rfl rfl rfl rfl rfl rfl rfl rfl) (by rw [hy9]; exact fun g hg => (inner_barrier hg).elim (fun h => inON 11 rfl h) (fun h => by obtain rfl := List.mem_singleton.1 h; exact inFN 2 rfl rfl)))) ?_
   exact retG [0] ⟨y9, hv.symm, hP, rfl⟩ z133 rfl ⟨rfl, trivial⟩ (fun _ => rfl)
 have h8 : 8 ≤ op.kind := by
   have := r.ok.1
   simp at g1 g2 g3 g4 g5 g6 g7
   omega
 refine stop_callG _ [1, 2, 3, 4, 5, 6, 7, 8, 9] (G := [_, _, _, _, _, _, _, _, _]) cl142 rfl rfl rfl rfl ⟨rfl, rfl⟩ z123 z109 (fun A w hW => (l7Chan_c P y k op r h8 hsd w (hW.atG [1, 2, 3, 4, 5, 6, 7, 8, 9] (G := [_, _, _, _, _, _, _, _, _]) z123 rfl z109 [10] (Fo := [_]) z137 rfl))) ?_
 rintro v L ⟨y2, rfl, hy2, rfl⟩
 exact retG [0] ⟨y2, rfl, hy2, rfl⟩ z133 rfl ⟨rfl, trivial⟩ (fun _ => rfl)
end Go.Proofs.YtjkkoonennpceaaGreat
