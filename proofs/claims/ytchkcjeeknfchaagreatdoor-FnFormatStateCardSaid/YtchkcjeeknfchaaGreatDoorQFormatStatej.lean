/- FnFormatState: texts that its proof stands on, part 10. -/
import Derived.Test.YtchkcjeeknfchaaGreatDoorQFormatStatei
namespace Go.Proofs.YtchkcjeeknfchaaGreatDoor
set_option maxRecDepth 100000
set_option maxHeartbeats 100000000
open Go Go.Sx Go.RowKit
theorem nilN {Zs G : List Fct} (k : Nat) (hk : Zs[k]? = some (fO G)) {e sz : Nat} {enc : Int → List Value} : ∃ f ∈ Zs, f.old = false ∧ Rd f (own nI e enc sz ([] : List Int)).aged :=
 ⟨_, List.mem_of_getElem? hk, rfl, ⟨fun w _ => (hH (show eF (own nI e enc sz ([] : List Int)) from ⟨rfl, rfl, rfl, rfl⟩) w).1 |> nJ, fun b hb => (lC (show eF (own nI e enc sz ([] : List Int)) from ⟨rfl, rfl, rfl, rfl⟩) b hb.2).elim⟩⟩
theorem iR0 (P : ProgH) (y : StateH) (k : Nat) (op : Op) {ops : List Op} {a st : Int} (r : Rdy P.pure y.pure k ops a st op) (hk : op.kind = 4) (w : World) (h : AtG w [own y.h0 3 aL 1 y.places, own y.h1 3 aL 1 y.status, own y.h2 85 iU 3 y.sems, own y.h3 98 fP 4 y.onces, own y.h4 88 eQ 2 y.groups, own y.h5 91 dD 3 y.barriers, own y.h6 95 gW 5 y.chans, own y.h7 3 aL 1 y.said, fO (fH y)] [fR (bD P)]) :
   Calls Tryz.prog 172 #[eJ P, aM y, .agg (cOp op).toArray, .int .i64 (k : Int)] w (bU0 w [own y.h0 3 aL 1 y.places, own y.h1 3 aL 1 y.status, own y.h2 85 iU 3 y.sems, own y.h3 98 fP 4 y.onces, own y.h4 88 eQ 2 y.groups, own y.h5 91 dD 3 y.barriers, own y.h6 95 gW 5 y.chans, own y.h7 3 aL 1 y.said, fO (fH y)] (DoR (dG P.pure y.pure k op))) := by
 obtain ⟨e0, e1, hkt, n4, hp0⟩ := r.lens
 have lt : P.pure.threads.length = P.threads.length := by simp [ProgH.pure]
 have hnm : y.places.length = y.status.length := by rw [e0, e1]
 have hn : P.threads.length = y.places.length := e0.symm
 have hn4 : y.places.length ≤ 100 := by omega
 have hkn : 0 ≤ (k : Int) ∧ (k : Int) < (y.places.length : Int) := by omega
 have hw1 : ∀ x ∈ [(k : Int)], 0 ≤ x ∧ x < (y.places.length : Int) := fun x hx => by simp at hx; rw [hx]; exact hkn
 have hpA : ∀ a ∈ y.pure.places, 0 ≤ a ∧ a ≤ 100 := fun x hx => by have := hp0 x hx; omega
 obtain ⟨x, hx, hxa, ok, hval, hi⟩ := r.once hk
 have hil : op.on.toNat < y.onces.length := by have := (List.getElem?_eq_some_iff.1 hx).1; simpa [StateH.pure] using this
 have hxe : (y.onces[op.on.toNat]'hil).m = x := by have := hx; simp only [StateH.pure, List.getElem?_map, List.getElem?_eq_getElem hil, Option.map_some, Option.some.injEq] at this; exact this
 subst hxe
 have hnq := fun u (h : aK (bB y.pure) u = []) => (qW hx (y.onces[op.on.toNat]).m).none h
 have hq : (k : Int) ∉ (y.onces[op.on.toNat]'hil).m.waits := by simpa using (bG (g := fun t : Int => t)).1 (hnq _ r.ev)
 have hst : y.pure.status.getD (k : Int).toNat 0 = st := by rw [Int.toNat_natCast, List.getD_eq_getElem?_getD, r.h3]; rfl
 have hks : k < y.status.length := by omega
 have hst2 : y.status[k] = st := (List.getElem?_eq_some_iff.1 r.h3).2
 refine pO Tryz.func172 rfl aA w _ rfl _ rfl _ _ h ⟨rfl, rfl, trivial⟩ _ _ rfl rfl ?_
 refine aF aI aA rfl rfl rfl rfl rfl ⟨rfl, rfl⟩ (aN 1 rfl (Rd.own (o := false) (o' := false))) k rfl z37 (fun ad6 => ?_)
 apply CaseB.mk <;> intro g
 · have h2 : st = 2 := by rw [← hst2]; simpa using g
   obtain ⟨w1, w2⟩ := r.owner hx hi h2
   obtain ⟨x1, told, hres⟩ : ∃ x1 told, (y.onces[op.on.toNat]'hil).m.finish k op.arg = (x1, told) := ⟨_, _, rfl⟩
   have hte : told = (y.onces[op.on.toNat]'hil).m.waits := by have := hres; simp only [Once.finish, Prod.mk.injEq] at this; exact this.2.symm
   have htin := (⟨hte.symm, by rw [hte]; exact eD ok⟩ : (y.onces[op.on.toNat]'hil).m.waits = told ∧ told.length ≤ 6)
   have htl : told.length ≤ 100 := by omega
   have htold : ∀ u ∈ told, 0 ≤ u ∧ u < (y.places.length : Int) := fun u hu => by
     have := r.ft.isIn fun h0 => (bG (g := fun t : Int => t)).1 (hnq u h0) (by rw [← htin.1] at *; simpa using hu)
     rw [lt] at this
     omega
   have htk : ∀ u ∈ told ++ [(k : Int)], 0 ≤ u ∧ u < (y.places.length : Int) := fun u hu => by
     rcases List.mem_append.1 hu with hu | hu
     · exact htold u hu
     · exact hw1 u hu
   refine aH aA z88 z88 z88 200 [((1, 3), .v (y.h3.val y.onces.length)), ((2, 1), .v (.int .i64 op.on)), ((2, 2), .v (.int .i64 op.arg))] [3] [_] z102 z113 ⟨rfl, trivial⟩ rfl ?_
   refine bM (ti := aZ tab) dM aA rfl rfl rfl rfl rfl ⟨rfl, rfl⟩ (aN 0 rfl (Rd.own (o := false) (o' := false))) op.on.toNat hi.symm z37 (fun ad5 => ?_)
   refine BothW.mk ?_ ?_
   all_goals
     refine bV _ kT0 rfl rfl rfl rfl ⟨rfl, rfl⟩ (fun A w hW => fP0 _ _ _ _ w ⟨hW.get 8 rfl (.ofO (iQ0 y _ hil)), trivial⟩ ok w1 w2 hval) ?_
     rw [hres]
     rintro v L ⟨q1, z1, rfl, rfl⟩
     refine cL dM 5 aA rfl rfl rfl rfl rfl ⟨rfl, rfl⟩ rfl z76 op.on.toNat hi.symm hil (fun gg hgg => ?_)
     refine bW dM 5 aA rfl rfl rfl rfl rfl rfl rfl rfl hgg op.on.toNat 0 ⟨x1, q1⟩ rfl hil rfl (fP ⟨x1, q1⟩) (fun _ => rfl) z63 ?_
     refine aH aA z88 z88 z88 200 [((0, 0), .v (P.h0.val P.sems.length)), ((0, 1), .v (P.h1.val P.groups.length)), ((0, 2), .v (P.h2.val P.barriers.length)), ((0, 3), .v (P.h3.val P.rooms.length)), ((0, 4), .v (P.h4.val P.threads.length)), ((1, 0), .v (y.h0.val y.places.length)), ((1, 1), .v (y.h1.val y.status.length)), ((1, 2), .v (y.h2.val y.sems.length)), ((1, 3), .v (y.h3.val y.onces.length)), ((1, 4), .v (y.h4.val y.groups.length)), ((1, 5), .v (y.h5.val y.barriers.length)), ((1, 6), .v (y.h6.val y.chans.length)), ((1, 7), .v ((y.h7).val (y.said).length)), ((1, 8), .v (.int .i64 y.fault))] [] [] z90 z92 trivial rfl ?_
     refine AllSl.mk fun zk => ?_
     refine dB (ti := aZ tab) aI 3 aA (xs := told) (ys := [(k : Int)]) rfl rfl rfl rfl rfl rfl rfl rfl rfl (by decide) ⟨rfl, rfl⟩ rfl z31 z37 z37 z86 (fun z5 => ?_)
     refine jL _ [4, 5] (G := [_, _]) lQ rfl rfl rfl rfl ⟨rfl, rfl⟩ ⟨rfl, rfl, trivial⟩ ⟨rfl, rfl, rfl, rfl, trivial⟩ z86 (fun A w hW => (iY _ _ P y _ _ z5 (told ++ [(k : Int)]) (y.pure) w (hW.atG [4, 5] (G := [_, _]) ⟨rfl, rfl, trivial⟩ rfl ⟨rfl, rfl, rfl, rfl, trivial⟩ [12, 0] (Fo := [_, _]) z114 rfl) rfl rfl hnm hn htk z87 hpA hn4)) ?_
     rintro v L ⟨rfl, rfl⟩
     have hlp : (onM P.pure (told ++ [(k : Int)]) (y.pure)).places.length = y.places.length := ((cG _ _ _).1.trans rfl)
     have hls : (onM P.pure (told ++ [(k : Int)]) (y.pure)).status.length = y.status.length := ((cG _ _ _).2.trans rfl)
     obtain ⟨y9, hy9⟩ : ∃ y9 : StateH, y9 = ⟨(onM P.pure (told ++ [(k : Int)]) (y.pure)).places, (onM P.pure (told ++ [(k : Int)]) (y.pure)).status, y.sems, (y.onces.set op.on.toNat ⟨x1, q1⟩), y.groups, y.barriers, y.chans, y.said, y.fault, y.h0, y.h1, y.h2, y.h3, y.h4, y.h5, y.h6, y.h7⟩ := ⟨_, rfl⟩
     have hP : y9.pure = dG P.pure y.pure k op := by
       rw [dG, if_neg (by omega), if_neg (by omega), if_neg (by omega), if_pos hk, pE, hst, if_pos h2, hxa, hres]
       show _ = onM P.pure (told ++ [(k : Int)]) (setOnce y.pure op x1)
       rw [iX P.pure (told ++ [(k : Int)]) y.pure (setOnce y.pure op x1) rfl rfl, hy9]
       simp only [StateH.pure, setOnce, List.map_set]
     have hv : aM y9 = aM y := by
       rw [hy9]; simp only [aM, hlp, hls, List.length_set]
     refine aU (Shift.pack (G := aJ y9) (dC y9 (by rw [hy9]; exact gK 0 1 6 4 7 8 9 10 rfl rfl rfl rfl rfl rfl rfl rfl) (by rw [hy9]; exact fun g hg => (nY hg).elim (fun h => jV 11 rfl h) (fun h => by obtain rfl := List.mem_singleton.1 h; exact kS 5 rfl rfl)))) ?_
     exact iZ [0] ⟨y9, hv.symm, hP, rfl⟩ z118 rfl ⟨rfl, trivial⟩ (fun _ => rfl)
 have h2 : ¬ st = 2 := by rw [← hst2]; simpa using g
 obtain ⟨x1, c1, hres⟩ : ∃ x1 c1, (y.onces[op.on.toNat]'hil).m.enter k = (x1, c1) := ⟨_, _, rfl⟩
 refine aF dM aA rfl rfl rfl rfl rfl ⟨rfl, rfl⟩ (aN 3 rfl (Rd.own (o := false) (o' := false))) op.on.toNat hi.symm z37 (fun ad5 => ?_)
 refine aB _ kS0 rfl rfl rfl rfl ⟨rfl, rfl⟩ (fun A w hW => iN0 _ _ _ w ⟨hW.get 8 rfl (.ofO (iQ0 y _ hil)), trivial⟩ ok r.thr hq (r.stranger hx h2)) ?_
 rw [hres]
 rintro v L ⟨q1, rfl, rfl⟩
 refine cL dM 4 aA rfl rfl rfl rfl rfl ⟨rfl, rfl⟩ rfl z76 op.on.toNat hi.symm hil (fun gg hgg => ?_)
 refine bW dM 4 aA rfl rfl rfl rfl rfl rfl rfl rfl hgg op.on.toNat 0 ⟨x1, q1⟩ rfl hil rfl (fP ⟨x1, q1⟩) (fun _ => rfl) z63 ?_
 apply CaseB.mk <;> intro g
 · have c0 : c1 = 0 := by simpa using g
   refine cL aI 3 aA rfl rfl rfl rfl rfl ⟨rfl, rfl⟩ rfl rfl k rfl (by omega) (fun gs hgs => ?_)
   refine bW aI 3 aA rfl rfl rfl rfl rfl rfl rfl rfl hgs k 0 2 rfl (by omega) rfl [.int .i64 2] (fun _ => rfl) rfl ?_
   have hlp : (bI (y.pure) k 2).places.length = y.places.length := rfl
   have hls : (bI (y.pure) k 2).status.length = y.status.length := ((List.length_set ..).trans rfl)
   obtain ⟨y9, hy9⟩ : ∃ y9 : StateH, y9 = ⟨(bI (y.pure) k 2).places, (bI (y.pure) k 2).status, y.sems, (y.onces.set op.on.toNat ⟨x1, q1⟩), y.groups, y.barriers, y.chans, y.said, y.fault, y.h0, y.h1, y.h2, y.h3, y.h4, y.h5, y.h6, y.h7⟩ := ⟨_, rfl⟩
   have hP : y9.pure = dG P.pure y.pure k op := by
     rw [dG, if_neg (by omega), if_neg (by omega), if_neg (by omega), if_pos hk, pE, hst, if_neg h2, hxa, hres]
     show _ = if c1 = 0 then bI (setOnce y.pure op x1) k 2 else if c1 = 1 then bI (setOnce y.pure op x1) k 1 else onM P.pure [(k : Int)] (setOnce y.pure op x1)
     rw [if_pos c0, hy9]
     simp only [StateH.pure, setOnce, List.map_set, bI]
   have hv : aM y9 = aM y := by
     rw [hy9]; simp only [aM, hlp, hls, List.length_set]
   refine aU (Shift.pack (G := aJ y9) (dC y9 z55 z36)) ?_
   exact iZ [0] ⟨y9, hv.symm, hP, rfl⟩ z118 rfl ⟨rfl, trivial⟩ (fun _ => rfl)
 have c0 : ¬ c1 = 0 := by simpa using g
 apply CaseB.mk <;> intro g
 · have c1' : c1 = 1 := by simpa using g
   refine cL aI 3 aA rfl rfl rfl rfl rfl ⟨rfl, rfl⟩ rfl rfl k rfl (by omega) (fun gs hgs => ?_)
   refine bW aI 3 aA rfl rfl rfl rfl rfl rfl rfl rfl hgs k 0 1 rfl (by omega) rfl [.int .i64 1] (fun _ => rfl) rfl ?_
   have hlp : (bI (y.pure) k 1).places.length = y.places.length := rfl
   have hls : (bI (y.pure) k 1).status.length = y.status.length := ((List.length_set ..).trans rfl)
   obtain ⟨y9, hy9⟩ : ∃ y9 : StateH, y9 = ⟨(bI (y.pure) k 1).places, (bI (y.pure) k 1).status, y.sems, (y.onces.set op.on.toNat ⟨x1, q1⟩), y.groups, y.barriers, y.chans, y.said, y.fault, y.h0, y.h1, y.h2, y.h3, y.h4, y.h5, y.h6, y.h7⟩ := ⟨_, rfl⟩
   have hP : y9.pure = dG P.pure y.pure k op := by
     rw [dG, if_neg (by omega), if_neg (by omega), if_neg (by omega), if_pos hk, pE, hst, if_neg h2, hxa, hres]
     show _ = if c1 = 0 then bI (setOnce y.pure op x1) k 2 else if c1 = 1 then bI (setOnce y.pure op x1) k 1 else onM P.pure [(k : Int)] (setOnce y.pure op x1)
     rw [if_neg c0, if_pos c1', hy9]
     simp only [StateH.pure, setOnce, List.map_set, bI]
   have hv : aM y9 = aM y := by
     rw [hy9]; simp only [aM, hlp, hls, List.length_set]
   refine aU (Shift.pack (G := aJ y9) (dC y9 z55 z36)) ?_
   exact iZ [0] ⟨y9, hv.symm, hP, rfl⟩ z118 rfl ⟨rfl, trivial⟩ (fun _ => rfl)
 have c1' : ¬ c1 = 1 := by simpa using g
 refine AllSl.mk fun zt => ?_
 refine hY _ [3, 4] (G := [_, _]) lQ rfl rfl rfl rfl ⟨rfl, rfl⟩ ⟨rfl, rfl, trivial⟩ ⟨rfl, rfl, rfl, rfl, trivial⟩ (fun A w hW => (iY _ _ P y _ _ zt ([(k : Int)]) (y.pure) w (hW.atG [3, 4] (G := [_, _]) ⟨rfl, rfl, trivial⟩ rfl ⟨rfl, rfl, rfl, rfl, trivial⟩ [11, 0] (Fo := [_, _]) z114 rfl) rfl rfl hnm hn hw1 (by simp) hpA hn4)) ?_
 rintro v L ⟨rfl, rfl⟩
 have hlp : (onM P.pure ([(k : Int)]) (y.pure)).places.length = y.places.length := ((cG _ _ _).1.trans rfl)
 have hls : (onM P.pure ([(k : Int)]) (y.pure)).status.length = y.status.length := ((cG _ _ _).2.trans rfl)
 obtain ⟨y9, hy9⟩ : ∃ y9 : StateH, y9 = ⟨(onM P.pure ([(k : Int)]) (y.pure)).places, (onM P.pure ([(k : Int)]) (y.pure)).status, y.sems, (y.onces.set op.on.toNat ⟨x1, q1⟩), y.groups, y.barriers, y.chans, y.said, y.fault, y.h0, y.h1, y.h2, y.h3, y.h4, y.h5, y.h6, y.h7⟩ := ⟨_, rfl⟩
 have hP : y9.pure = dG P.pure y.pure k op := by
   rw [dG, if_neg (by omega), if_neg (by omega), if_neg (by omega), if_pos hk, pE, hst, if_neg h2, hxa, hres]
   show _ = if c1 = 0 then bI (setOnce y.pure op x1) k 2 else if c1 = 1 then bI (setOnce y.pure op x1) k 1 else onM P.pure [(k : Int)] (setOnce y.pure op x1)
   rw [if_neg c0, if_neg c1', iX P.pure [(k : Int)] y.pure (setOnce y.pure op x1) rfl rfl, hy9]
   simp only [StateH.pure, setOnce, List.map_set]
 have hv : aM y9 = aM y := by
   rw [hy9]; simp only [aM, hlp, hls, List.length_set]
 refine aU (Shift.pack (G := aJ y9) (dC y9 (by rw [hy9]; exact gK 0 1 5 3 6 7 8 9 rfl rfl rfl rfl rfl rfl rfl rfl) (by rw [hy9]; exact fun g hg => (nY hg).elim (fun h => jV 10 rfl h) (fun h => by obtain rfl := List.mem_singleton.1 h; exact kS 4 rfl rfl)))) ?_
 exact iZ [0] ⟨y9, hv.symm, hP, rfl⟩ z118 rfl ⟨rfl, trivial⟩ (fun _ => rfl)
theorem iS0 (P : ProgH) (y : StateH) (k : Nat) (op : Op) {ops : List Op} {a st : Int} (r : Rdy P.pure y.pure k ops a st op) (h8 : 8 ≤ op.kind) (hsd : y.said.length ≤ 64) (w : World) (h : AtG w [own y.h0 3 aL 1 y.places, own y.h1 3 aL 1 y.status, own y.h2 85 iU 3 y.sems, own y.h3 98 fP 4 y.onces, own y.h4 88 eQ 2 y.groups, own y.h5 91 dD 3 y.barriers, own y.h6 95 gW 5 y.chans, own y.h7 3 aL 1 y.said, fO (fH y)] [fR (bD P)]) :
   Calls Tryz.prog 177 #[eJ P, aM y, .agg (cOp op).toArray, .int .i64 (k : Int)] w (bU0 w [own y.h0 3 aL 1 y.places, own y.h1 3 aL 1 y.status, own y.h2 85 iU 3 y.sems, own y.h3 98 fP 4 y.onces, own y.h4 88 eQ 2 y.groups, own y.h5 91 dD 3 y.barriers, own y.h6 95 gW 5 y.chans, own y.h7 3 aL 1 y.said, fO (fH y)] (DoR (dG P.pure y.pure k op))) := by
 obtain ⟨e0, e1, hkt, n4, hp0⟩ := r.lens
 have lt : P.pure.threads.length = P.threads.length := by simp [ProgH.pure]
 have hnm : y.places.length = y.status.length := by rw [e0, e1]
 have hn : P.threads.length = y.places.length := e0.symm
 have hn4 : y.places.length ≤ 100 := by omega
 have hkn : 0 ≤ (k : Int) ∧ (k : Int) < (y.places.length : Int) := by omega
 have hw1 : ∀ x ∈ [(k : Int)], 0 ≤ x ∧ x < (y.places.length : Int) := fun x hx => by simp at hx; rw [hx]; exact hkn
 have hpA : ∀ a ∈ y.pure.places, 0 ≤ a ∧ a ≤ 100 := fun x hx => by have := hp0 x hx; omega
 obtain ⟨x, hx, hxa, hv, hval, hi⟩ := r.chan h8
 have hil : op.on.toNat < y.chans.length := by have := (List.getElem?_eq_some_iff.1 hx).1; simpa [StateH.pure] using this
 have hxe : (y.chans[op.on.toNat]'hil).m = x := by have := hx; simp only [StateH.pure, List.getElem?_map, List.getElem?_eq_getElem hil, Option.map_some, Option.some.injEq] at this; exact this
 subst hxe
 have hnq := fun u (h : aK (bB y.pure) u = []) => (gJ hx (y.chans[op.on.toNat]).m).none h
 have hsm := hv.small
 refine pO Tryz.func177 rfl aA w _ rfl _ rfl _ _ h ⟨rfl, rfl, trivial⟩ _ _ rfl rfl ?_
 refine aF cX aA rfl rfl rfl rfl rfl ⟨rfl, rfl⟩ (aN 6 rfl (Rd.own (o := false) (o' := false))) op.on.toNat hi.symm z37 (fun ad5 => ?_)
 apply CaseB.mk <;> intro g
 · have hk : op.kind = 8 := by simpa using g
   obtain ⟨x1, told, b1, o1, hres⟩ : ∃ x1 told b1 o1, (y.chans[op.on.toNat]'hil).m.send k op.arg = (x1, told, b1, o1) := ⟨_, _, _, _, rfl⟩
   have htin := fM0 hres
   have htl : told.length ≤ 100 := by omega
   have htold : ∀ u ∈ told, 0 ≤ u ∧ u < (y.places.length : Int) := fun u hu => by
     have := r.ft.isIn fun h0 => z66
     rw [lt] at this
     omega
   have htk : ∀ u ∈ told ++ [(k : Int)], 0 ≤ u ∧ u < (y.places.length : Int) := fun u hu => by
     rcases List.mem_append.1 hu with hu | hu
     · exact htold u hu
     · exact hw1 u hu
   refine aB _ cl181 rfl rfl rfl rfl ⟨rfl, rfl⟩ (fun A w hW => kD0 _ _ _ _ _ _ w ⟨hW.get 8 rfl (.ofO (zN y _ hil)), hW.get 8 rfl (.ofO (zO y _ hil)), hW.get 8 rfl (.ofO (zP y _ hil)), trivial⟩ hsm) ?_
   rw [hres]
   rintro v L ⟨q0, q1, q2, z1, rfl, rfl⟩
   apply CaseB.mk <;> intro g
   · have e2 : o1 = false := by simpa using g
     refine aB _ dK0 rfl rfl rfl rfl ⟨rfl, rfl⟩ (fun A w hW => sJ y 3 w) ?_
     rintro v L ⟨rfl, rfl⟩
     have hlp : (y.pure).places.length = y.places.length := rfl
     have hls : (y.pure).status.length = y.status.length := rfl
     obtain ⟨y9, hy9⟩ : ∃ y9 : StateH, y9 = ⟨(y.pure).places, (y.pure).status, y.sems, y.onces, y.groups, y.barriers, y.chans, y.said, 3, y.h0, y.h1, y.h2, y.h3, y.h4, y.h5, y.h6, y.h7⟩ := ⟨_, rfl⟩
     have hP : y9.pure = dG P.pure y.pure k op := by
       rw [dG, if_neg (by omega), if_neg (by omega), if_neg (by omega), if_neg (by omega), if_neg (by omega), if_neg (by omega), if_neg (by omega), if_pos hk, nX, hxa, hres, hy9]
       simp [e2, kD, StateH.pure]
     have hv : aM y9 = .agg #[y.h0.val y.places.length, y.h1.val y.status.length, y.h2.val y.sems.length, y.h3.val y.onces.length, y.h4.val y.groups.length, y.h5.val y.barriers.length, y.h6.val y.chans.length, (y.h7).val (y.said).length, .int .i64 3] := by
       rw [hy9]; simp only [aM, hlp, hls]
     refine aU (Shift.pack (G := aJ y9) (dC y9 z53 (by rw [hy9]; exact fun g hg => jV 12 rfl hg))) ?_
     exact iZ [0] ⟨y9, hv.symm, hP, rfl⟩ z118 rfl ⟨rfl, trivial⟩ (fun _ => rfl)
   have e2 : o1 = true := by simpa using g
   refine cL cX 10 aA rfl rfl rfl rfl rfl ⟨rfl, rfl⟩ rfl z76 op.on.toNat hi.symm hil (fun gg hgg => ?_)
   refine bW cX 10 aA rfl rfl rfl rfl rfl rfl rfl rfl hgg op.on.toNat 0 ⟨x1, q0, q1, q2⟩ rfl hil rfl (gW ⟨x1, q0, q1, q2⟩) (fun _ => rfl) z63 ?_
   apply CaseB.mk <;> intro g
   · have e3 : ¬ told = [] := fun e => by subst e; simp at g
     refine AllSl.mk fun zs => ?_
     refine bR aI 12 aA (xs := y.said) (ys := [op.arg]) rfl rfl rfl rfl rfl rfl rfl rfl rfl (by decide) ⟨rfl, rfl⟩ rfl z31 z37 z37 (fun z9 => ?_)
     apply CaseB.mk <;> intro g
     · have e4 : b1 = true := g
       refine AllSl.mk fun zk => ?_
       refine bR aI 7 aA (xs := told) (ys := [(k : Int)]) rfl rfl rfl rfl rfl rfl rfl rfl rfl (by decide) ⟨rfl, rfl⟩ rfl z31 z37 z37 (fun z5 => ?_)
       refine hY _ [8, 9] (G := [_, _]) lQ rfl rfl rfl rfl ⟨rfl, rfl⟩ ⟨rfl, rfl, trivial⟩ ⟨rfl, rfl, rfl, rfl, trivial⟩ (fun A w hW => (iY _ _ P y _ _ z5 (told ++ [(k : Int)]) (y.pure) w (hW.atG [8, 9] (G := [_, _]) ⟨rfl, rfl, trivial⟩ rfl ⟨rfl, rfl, rfl, rfl, trivial⟩ [15, 0] (Fo := [_, _]) z114 rfl) rfl rfl hnm hn htk z87 hpA hn4)) ?_
       rintro v L ⟨rfl, rfl⟩
       have hlp : (onM P.pure (told ++ [(k : Int)]) (y.pure)).places.length = y.places.length := ((cG _ _ _).1.trans rfl)
       have hls : (onM P.pure (told ++ [(k : Int)]) (y.pure)).status.length = y.status.length := ((cG _ _ _).2.trans rfl)
       obtain ⟨y9, hy9⟩ : ∃ y9 : StateH, y9 = ⟨(onM P.pure (told ++ [(k : Int)]) (y.pure)).places, (onM P.pure (told ++ [(k : Int)]) (y.pure)).status, y.sems, y.onces, y.groups, y.barriers, (y.chans.set op.on.toNat ⟨x1, q0, q1, q2⟩), (y.said ++ [op.arg]), y.fault, y.h0, y.h1, y.h2, y.h3, y.h4, y.h5, y.h6, z9⟩ := ⟨_, rfl⟩
       have hP : y9.pure = dG P.pure y.pure k op := by
         rw [dG, if_neg (by omega), if_neg (by omega), if_neg (by omega), if_neg (by omega), if_neg (by omega), if_neg (by omega), if_neg (by omega), if_pos hk, nX, hxa, hres]
         show _ = if o1 = true then (if b1 = true then onM P.pure (told ++ [(k : Int)]) (if told = [] then setChan y.pure op x1 else kR (setChan y.pure op x1) op.arg) else bI (setChan y.pure op x1) k 1) else kD y.pure 3
         rw [if_pos e2, if_pos e4, if_neg e3, iX P.pure (told ++ [(k : Int)]) y.pure (kR (setChan y.pure op x1) op.arg) rfl rfl, hy9]
         simp only [StateH.pure, setChan, kR, List.map_set]
       have hv : aM y9 = .agg #[y.h0.val y.places.length, y.h1.val y.status.length, y.h2.val y.sems.length, y.h3.val y.onces.length, y.h4.val y.groups.length, y.h5.val y.barriers.length, y.h6.val y.chans.length, (z9).val ((y.said ++ [op.arg])).length, .int .i64 y.fault] := by
         rw [hy9]; simp only [aM, hlp, hls, List.length_set]
       refine aU (Shift.pack (G := aJ y9) (dC y9 z50 z33)) ?_
       exact iZ [0] ⟨y9, hv.symm, hP, rfl⟩ z118 rfl ⟨rfl, trivial⟩ (fun _ => rfl)
     · exact (e3 (htin.2.2 g)).elim
   have e3 : told = [] := List.eq_nil_of_length_eq_zero (by have g' := g; simp at g'; simp [g'])
   apply CaseB.mk <;> intro g
   · have e4 : b1 = true := g
     refine AllSl.mk fun zk => ?_
     refine bR aI 5 aA (xs := told) (ys := [(k : Int)]) rfl rfl rfl rfl rfl rfl rfl rfl rfl (by decide) ⟨rfl, rfl⟩ rfl z31 z37 z37 (fun z5 => ?_)
     refine hY _ [6, 7] (G := [_, _]) lQ rfl rfl rfl rfl ⟨rfl, rfl⟩ ⟨rfl, rfl, trivial⟩ ⟨rfl, rfl, rfl, rfl, trivial⟩ (fun A w hW => (iY _ _ P y _ _ z5 (told ++ [(k : Int)]) (y.pure) w (hW.atG [6, 7] (G := [_, _]) ⟨rfl, rfl, trivial⟩ rfl ⟨rfl, rfl, rfl, rfl, trivial⟩ [14, 0] (Fo := [_, _]) z114 rfl) rfl rfl hnm hn htk z87 hpA hn4)) ?_
     rintro v L ⟨rfl, rfl⟩
     have hlp : (onM P.pure (told ++ [(k : Int)]) (y.pure)).places.length = y.places.length := ((cG _ _ _).1.trans rfl)
     have hls : (onM P.pure (told ++ [(k : Int)]) (y.pure)).status.length = y.status.length := ((cG _ _ _).2.trans rfl)
     obtain ⟨y9, hy9⟩ : ∃ y9 : StateH, y9 = ⟨(onM P.pure (told ++ [(k : Int)]) (y.pure)).places, (onM P.pure (told ++ [(k : Int)]) (y.pure)).status, y.sems, y.onces, y.groups, y.barriers, (y.chans.set op.on.toNat ⟨x1, q0, q1, q2⟩), y.said, y.fault, y.h0, y.h1, y.h2, y.h3, y.h4, y.h5, y.h6, y.h7⟩ := ⟨_, rfl⟩
     have hP : y9.pure = dG P.pure y.pure k op := by
       rw [dG, if_neg (by omega), if_neg (by omega), if_neg (by omega), if_neg (by omega), if_neg (by omega), if_neg (by omega), if_neg (by omega), if_pos hk, nX, hxa, hres]
       show _ = if o1 = true then (if b1 = true then onM P.pure (told ++ [(k : Int)]) (if told = [] then setChan y.pure op x1 else kR (setChan y.pure op x1) op.arg) else bI (setChan y.pure op x1) k 1) else kD y.pure 3
       rw [if_pos e2, if_pos e4, if_pos e3, iX P.pure (told ++ [(k : Int)]) y.pure (setChan y.pure op x1) rfl rfl, hy9]
       simp only [StateH.pure, setChan, List.map_set]
     have hv : aM y9 = aM y := by
       rw [hy9]; simp only [aM, hlp, hls, List.length_set]
     refine aU (Shift.pack (G := aJ y9) (dC y9 z52 z34)) ?_
     exact iZ [0] ⟨y9, hv.symm, hP, rfl⟩ z118 rfl ⟨rfl, trivial⟩ (fun _ => rfl)
   · have e5 : b1 = false := g
     have e4 : ¬ b1 = true := by rw [e5]; decide
     refine cL aI 6 aA rfl rfl rfl rfl rfl ⟨rfl, rfl⟩ rfl rfl k rfl (by omega) (fun gs hgs => ?_)
     refine bW aI 6 aA rfl rfl rfl rfl rfl rfl rfl rfl hgs k 0 1 rfl (by omega) rfl [.int .i64 1] (fun _ => rfl) rfl ?_
     refine hY _ [6, 0] (G := [_, _]) lQ rfl rfl rfl rfl ⟨rfl, rfl⟩ ⟨rfl, rfl, trivial⟩ ⟨rfl, rfl, rfl, rfl, trivial⟩ (fun A w hW => (iY _ _ P y _ _ _ (told) (bI (y.pure) k 1) w (hW.atG [6, 0] (G := [_, _]) ⟨rfl, rfl, trivial⟩ rfl ⟨rfl, rfl, rfl, rfl, trivial⟩ [13, 5] (Fo := [_, _]) z114 rfl) rfl ((List.length_set ..).trans rfl) hnm hn htold htl hpA hn4)) ?_
     rintro v L ⟨rfl, rfl⟩
     have hlp : (onM P.pure (told) (bI (y.pure) k 1)).places.length = y.places.length := ((cG _ _ _).1.trans rfl)
     have hls : (onM P.pure (told) (bI (y.pure) k 1)).status.length = y.status.length := ((cG _ _ _).2.trans ((List.length_set ..).trans rfl))
     obtain ⟨y9, hy9⟩ : ∃ y9 : StateH, y9 = ⟨(onM P.pure (told) (bI (y.pure) k 1)).places, (onM P.pure (told) (bI (y.pure) k 1)).status, y.sems, y.onces, y.groups, y.barriers, (y.chans.set op.on.toNat ⟨x1, q0, q1, q2⟩), y.said, y.fault, y.h0, y.h1, y.h2, y.h3, y.h4, y.h5, y.h6, y.h7⟩ := ⟨_, rfl⟩
     have hP : y9.pure = dG P.pure y.pure k op := by
       rw [dG, if_neg (by omega), if_neg (by omega), if_neg (by omega), if_neg (by omega), if_neg (by omega), if_neg (by omega), if_neg (by omega), if_pos hk, nX, hxa, hres]
       show _ = if o1 = true then (if b1 = true then onM P.pure (told ++ [(k : Int)]) (if told = [] then setChan y.pure op x1 else kR (setChan y.pure op x1) op.arg) else bI (setChan y.pure op x1) k 1) else kD y.pure 3
       rw [if_pos e2, if_neg e4, hy9, e3]
       simp only [StateH.pure, setChan, List.map_set, bI, onM, List.foldl_nil]
     have hv : aM y9 = aM y := by
       rw [hy9]; simp only [aM, hlp, hls, List.length_set]
     refine aU (Shift.pack (G := aJ y9) (dC y9 (by rw [hy9]; exact gK 0 1 7 8 9 10 2 11 rfl rfl rfl rfl rfl rfl rfl rfl) (by rw [hy9]; exact fun g hg => (nZ hg).elim (fun h => jV 12 rfl h) (fun h => by simp only [jO, List.mem_cons, List.not_mem_nil, or_false] at h; rcases h with rfl | rfl | rfl <;> first | exact kS 3 rfl rfl | exact kS 4 rfl rfl | exact kS 5 rfl rfl)))) ?_
     exact iZ [0] ⟨y9, hv.symm, hP, rfl⟩ z118 rfl ⟨rfl, trivial⟩ (fun _ => rfl)
 have k8 : ¬ op.kind = 8 := by simpa using g
 apply CaseB.mk <;> intro g
 · have hk : op.kind = 9 := by simpa using g
   obtain ⟨x1, v1, c1, told, o1, hres⟩ : ∃ x1 v1 c1 told o1, (y.chans[op.on.toNat]'hil).m.get k = (x1, v1, c1, told, o1) := ⟨_, _, _, _, _, rfl⟩
   have htin := iJ0 hres
   have htl : told.length ≤ 100 := by omega
   have htold : ∀ u ∈ told, 0 ≤ u ∧ u < (y.places.length : Int) := fun u hu => by
     have := r.ft.isIn fun h0 => z66
     rw [lt] at this
     omega
   have htk : ∀ u ∈ told ++ [(k : Int)], 0 ≤ u ∧ u < (y.places.length : Int) := fun u hu => by
     rcases List.mem_append.1 hu with hu | hu
     · exact htold u hu
     · exact hw1 u hu
   refine aB _ cl182 rfl rfl rfl rfl ⟨rfl, rfl⟩ (fun A w hW => mN0 _ _ _ _ _ w ⟨hW.get 8 rfl (.ofO (zN y _ hil)), hW.get 8 rfl (.ofO (zO y _ hil)), hW.get 8 rfl (.ofO (zP y _ hil)), trivial⟩ hsm) ?_
   rw [hres]
   rintro v L ⟨q0, q1, q2, z1, rfl, rfl⟩
   refine cL cX 10 aA rfl rfl rfl rfl rfl ⟨rfl, rfl⟩ rfl z76 op.on.toNat hi.symm hil (fun gg hgg => ?_)
   refine bW cX 10 aA rfl rfl rfl rfl rfl rfl rfl rfl hgg op.on.toNat 0 ⟨x1, q0, q1, q2⟩ rfl hil rfl (gW ⟨x1, q0, q1, q2⟩) (fun _ => rfl) z63 ?_
   apply CaseB.mk <;> intro g
   · have c0 : c1 = 0 := by simpa using g
     refine cL aI 6 aA rfl rfl rfl rfl rfl ⟨rfl, rfl⟩ rfl rfl k rfl (by omega) (fun gs hgs => ?_)
     refine bW aI 6 aA rfl rfl rfl rfl rfl rfl rfl rfl hgs k 0 1 rfl (by omega) rfl [.int .i64 1] (fun _ => rfl) rfl ?_
     have hlp : (bI (y.pure) k 1).places.length = y.places.length := rfl
     have hls : (bI (y.pure) k 1).status.length = y.status.length := ((List.length_set ..).trans rfl)
     obtain ⟨y9, hy9⟩ : ∃ y9 : StateH, y9 = ⟨(bI (y.pure) k 1).places, (bI (y.pure) k 1).status, y.sems, y.onces, y.groups, y.barriers, (y.chans.set op.on.toNat ⟨x1, q0, q1, q2⟩), y.said, y.fault, y.h0, y.h1, y.h2, y.h3, y.h4, y.h5, y.h6, y.h7⟩ := ⟨_, rfl⟩
     have hP : y9.pure = dG P.pure y.pure k op := by
       rw [dG, if_neg (by omega), if_neg (by omega), if_neg (by omega), if_neg (by omega), if_neg (by omega), if_neg (by omega), if_neg (by omega), if_neg (by omega), if_pos hk, uC, hxa, hres]
       show _ = if c1 = 0 then bI (setChan y.pure op x1) k 1 else onM P.pure (told ++ [(k : Int)]) (if c1 = 1 then kR (setChan y.pure op x1) v1 else setChan y.pure op x1)
       rw [if_pos c0, hy9]
       simp only [StateH.pure, setChan, List.map_set, bI]
     have hv : aM y9 = aM y := by
       rw [hy9]; simp only [aM, hlp, hls, List.length_set]
     refine aU (Shift.pack (G := aJ y9) (dC y9 (by rw [hy9]; exact gK 6 0 7 8 9 10 1 11 rfl rfl rfl rfl rfl rfl rfl rfl) (by rw [hy9]; exact fun g hg => (nZ hg).elim (fun h => jV 12 rfl h) (fun h => by simp only [jO, List.mem_cons, List.not_mem_nil, or_false] at h; rcases h with rfl | rfl | rfl <;> first | exact kS 2 rfl rfl | exact kS 3 rfl rfl | exact kS 4 rfl rfl)))) ?_
     exact iZ [0] ⟨y9, hv.symm, hP, rfl⟩ z118 rfl ⟨rfl, trivial⟩ (fun _ => rfl)
   have c0 : ¬ c1 = 0 := by simpa using g
   apply CaseB.mk <;> intro g
   · have c2 : c1 = 1 := by simpa using g
     refine AllSl.mk fun zs => ?_
     refine bR aI 12 aA (xs := y.said) (ys := [v1]) rfl rfl rfl rfl rfl rfl rfl rfl rfl (by decide) ⟨rfl, rfl⟩ rfl z31 z37 z37 (fun z9 => ?_)
     refine aH aA z88 z88 z88 200 [((0, 0), .v (P.h0.val P.sems.length)), ((0, 1), .v (P.h1.val P.groups.length)), ((0, 2), .v (P.h2.val P.barriers.length)), ((0, 3), .v (P.h3.val P.rooms.length)), ((0, 4), .v (P.h4.val P.threads.length)), ((1, 0), .v (y.h0.val y.places.length)), ((1, 1), .v (y.h1.val y.status.length)), ((1, 2), .v (y.h2.val y.sems.length)), ((1, 3), .v (y.h3.val y.onces.length)), ((1, 4), .v (y.h4.val y.groups.length)), ((1, 5), .v (y.h5.val y.barriers.length)), ((1, 6), .v (y.h6.val y.chans.length)), ((1, 7), .v ((z9).val ((y.said ++ [v1])).length)), ((1, 8), .v (.int .i64 y.fault))] [] [] z90 z92 trivial rfl ?_
     refine AllSl.mk fun zk => ?_
     refine dB (ti := aZ tab) aI 7 aA (xs := told) (ys := [(k : Int)]) rfl rfl rfl rfl rfl rfl rfl rfl rfl (by decide) ⟨rfl, rfl⟩ rfl z31 z37 z37 z86 (fun z5 => ?_)
     refine jL _ [8, 9] (G := [_, _]) lQ rfl rfl rfl rfl ⟨rfl, rfl⟩ ⟨rfl, rfl, trivial⟩ ⟨rfl, rfl, rfl, rfl, trivial⟩ z86 (fun A w hW => (iY _ _ P y _ _ z5 (told ++ [(k : Int)]) (y.pure) w (hW.atG [8, 9] (G := [_, _]) ⟨rfl, rfl, trivial⟩ rfl ⟨rfl, rfl, rfl, rfl, trivial⟩ [15, 0] (Fo := [_, _]) z114 rfl) rfl rfl hnm hn htk z87 hpA hn4)) ?_
     rintro v L ⟨rfl, rfl⟩
     have hlp : (onM P.pure (told ++ [(k : Int)]) (y.pure)).places.length = y.places.length := ((cG _ _ _).1.trans rfl)
     have hls : (onM P.pure (told ++ [(k : Int)]) (y.pure)).status.length = y.status.length := ((cG _ _ _).2.trans rfl)
     obtain ⟨y9, hy9⟩ : ∃ y9 : StateH, y9 = ⟨(onM P.pure (told ++ [(k : Int)]) (y.pure)).places, (onM P.pure (told ++ [(k : Int)]) (y.pure)).status, y.sems, y.onces, y.groups, y.barriers, (y.chans.set op.on.toNat ⟨x1, q0, q1, q2⟩), (y.said ++ [v1]), y.fault, y.h0, y.h1, y.h2, y.h3, y.h4, y.h5, y.h6, z9⟩ := ⟨_, rfl⟩
     have hP : y9.pure = dG P.pure y.pure k op := by
       rw [dG, if_neg (by omega), if_neg (by omega), if_neg (by omega), if_neg (by omega), if_neg (by omega), if_neg (by omega), if_neg (by omega), if_neg (by omega), if_pos hk, uC, hxa, hres]
       show _ = if c1 = 0 then bI (setChan y.pure op x1) k 1 else onM P.pure (told ++ [(k : Int)]) (if c1 = 1 then kR (setChan y.pure op x1) v1 else setChan y.pure op x1)
       rw [if_neg c0, if_pos c2, iX P.pure (told ++ [(k : Int)]) y.pure (kR (setChan y.pure op x1) v1) rfl rfl, hy9]
       simp only [StateH.pure, setChan, kR, List.map_set]
     have hv : aM y9 = .agg #[y.h0.val y.places.length, y.h1.val y.status.length, y.h2.val y.sems.length, y.h3.val y.onces.length, y.h4.val y.groups.length, y.h5.val y.barriers.length, y.h6.val y.chans.length, (z9).val ((y.said ++ [v1])).length, .int .i64 y.fault] := by
       rw [hy9]; simp only [aM, hlp, hls, List.length_set]
     refine aU (Shift.pack (G := aJ y9) (dC y9 z50 z33)) ?_
     exact iZ [0] ⟨y9, hv.symm, hP, rfl⟩ z118 rfl ⟨rfl, trivial⟩ (fun _ => rfl)
   have c2 : ¬ c1 = 1 := by simpa using g
   refine aH aA z88 z88 z88 200 [((0, 0), .v (P.h0.val P.sems.length)), ((0, 1), .v (P.h1.val P.groups.length)), ((0, 2), .v (P.h2.val P.barriers.length)), ((0, 3), .v (P.h3.val P.rooms.length)), ((0, 4), .v (P.h4.val P.threads.length)), ((1, 0), .v (y.h0.val y.places.length)), ((1, 1), .v (y.h1.val y.status.length)), ((1, 2), .v (y.h2.val y.sems.length)), ((1, 3), .v (y.h3.val y.onces.length)), ((1, 4), .v (y.h4.val y.groups.length)), ((1, 5), .v (y.h5.val y.barriers.length)), ((1, 6), .v (y.h6.val y.chans.length)), ((1, 7), .v ((y.h7).val (y.said).length)), ((1, 8), .v (.int .i64 y.fault))] [] [] z90 z92 trivial rfl ?_
   refine AllSl.mk fun zk => ?_
   refine dB (ti := aZ tab) aI 5 aA (xs := told) (ys := [(k : Int)]) rfl rfl rfl rfl rfl rfl rfl rfl rfl (by decide) ⟨rfl, rfl⟩ rfl z31 z37 z37 z86 (fun z5 => ?_)
   refine jL _ [6, 7] (G := [_, _]) lQ rfl rfl rfl rfl ⟨rfl, rfl⟩ ⟨rfl, rfl, trivial⟩ ⟨rfl, rfl, rfl, rfl, trivial⟩ z86 (fun A w hW => (iY _ _ P y _ _ z5 (told ++ [(k : Int)]) (y.pure) w (hW.atG [6, 7] (G := [_, _]) ⟨rfl, rfl, trivial⟩ rfl ⟨rfl, rfl, rfl, rfl, trivial⟩ [14, 0] (Fo := [_, _]) z114 rfl) rfl rfl hnm hn htk z87 hpA hn4)) ?_
   rintro v L ⟨rfl, rfl⟩
   have hlp : (onM P.pure (told ++ [(k : Int)]) (y.pure)).places.length = y.places.length := ((cG _ _ _).1.trans rfl)
   have hls : (onM P.pure (told ++ [(k : Int)]) (y.pure)).status.length = y.status.length := ((cG _ _ _).2.trans rfl)
   obtain ⟨y9, hy9⟩ : ∃ y9 : StateH, y9 = ⟨(onM P.pure (told ++ [(k : Int)]) (y.pure)).places, (onM P.pure (told ++ [(k : Int)]) (y.pure)).status, y.sems, y.onces, y.groups, y.barriers, (y.chans.set op.on.toNat ⟨x1, q0, q1, q2⟩), y.said, y.fault, y.h0, y.h1, y.h2, y.h3, y.h4, y.h5, y.h6, y.h7⟩ := ⟨_, rfl⟩
   have hP : y9.pure = dG P.pure y.pure k op := by
     rw [dG, if_neg (by omega), if_neg (by omega), if_neg (by omega), if_neg (by omega), if_neg (by omega), if_neg (by omega), if_neg (by omega), if_neg (by omega), if_pos hk, uC, hxa, hres]
     show _ = if c1 = 0 then bI (setChan y.pure op x1) k 1 else onM P.pure (told ++ [(k : Int)]) (if c1 = 1 then kR (setChan y.pure op x1) v1 else setChan y.pure op x1)
     rw [if_neg c0, if_neg c2, iX P.pure (told ++ [(k : Int)]) y.pure (setChan y.pure op x1) rfl rfl, hy9]
     simp only [StateH.pure, setChan, List.map_set]
   have hv : aM y9 = aM y := by
     rw [hy9]; simp only [aM, hlp, hls, List.length_set]
   refine aU (Shift.pack (G := aJ y9) (dC y9 z52 z34)) ?_
   exact iZ [0] ⟨y9, hv.symm, hP, rfl⟩ z118 rfl ⟨rfl, trivial⟩ (fun _ => rfl)
 have k9 : ¬ op.kind = 9 := by simpa using g
 have hk : op.kind = 10 := by have := r.ok.2.1; omega
 obtain ⟨x1, told, o1, hres⟩ : ∃ x1 told o1, (y.chans[op.on.toNat]'hil).m.close = (x1, told, o1) := ⟨_, _, _, rfl⟩
 have htin := cV0 hv hres
 have htl : told.length ≤ 100 := by omega
 have htold : ∀ u ∈ told, 0 ≤ u ∧ u < (y.places.length : Int) := fun u hu => by
   have := r.ft.isIn fun h0 => z66
   rw [lt] at this
   omega
 have htk : ∀ u ∈ told ++ [(k : Int)], 0 ≤ u ∧ u < (y.places.length : Int) := fun u hu => by
   rcases List.mem_append.1 hu with hu | hu
   · exact htold u hu
   · exact hw1 u hu
 refine aB _ cl183 rfl rfl rfl rfl ⟨rfl, rfl⟩ (fun A w hW => iA0 _ _ _ _ w ⟨hW.get 8 rfl (.ofO (zN y _ hil)), hW.get 8 rfl (.ofO (zO y _ hil)), hW.get 8 rfl (.ofO (zP y _ hil)), trivial⟩ hsm) ?_
 rw [hres]
 rintro v L ⟨q0, q1, q2, z1, rfl, rfl⟩
 apply CaseB.mk <;> intro g
 · have e2 : ¬ o1 = true := by have e : o1 = false := z85; rw [e]; decide
   refine aB _ dK0 rfl rfl rfl rfl ⟨rfl, rfl⟩ (fun A w hW => sJ y 4 w) ?_
   rintro v L ⟨rfl, rfl⟩
   have hlp : (y.pure).places.length = y.places.length := rfl
   have hls : (y.pure).status.length = y.status.length := rfl
   obtain ⟨y9, hy9⟩ : ∃ y9 : StateH, y9 = ⟨(y.pure).places, (y.pure).status, y.sems, y.onces, y.groups, y.barriers, y.chans, y.said, 4, y.h0, y.h1, y.h2, y.h3, y.h4, y.h5, y.h6, y.h7⟩ := ⟨_, rfl⟩
   have hP : y9.pure = dG P.pure y.pure k op := by
     rw [dG, if_neg (by omega), if_neg (by omega), if_neg (by omega), if_neg (by omega), if_neg (by omega), if_neg (by omega), if_neg (by omega), if_neg (by omega), if_neg (by omega), pW, hxa, hres]
     show _ = if o1 = true then onM P.pure (told ++ [(k : Int)]) (setChan y.pure op x1) else kD y.pure 4
     rw [if_neg e2, hy9]
     rfl
   have hv : aM y9 = .agg #[y.h0.val y.places.length, y.h1.val y.status.length, y.h2.val y.sems.length, y.h3.val y.onces.length, y.h4.val y.groups.length, y.h5.val y.barriers.length, y.h6.val y.chans.length, (y.h7).val (y.said).length, .int .i64 4] := by
     rw [hy9]; simp only [aM, hlp, hls]
   refine aU (Shift.pack (G := aJ y9) (dC y9 z53 (by rw [hy9]; exact fun g hg => jV 12 rfl hg))) ?_
   exact iZ [0] ⟨y9, hv.symm, hP, rfl⟩ z118 rfl ⟨rfl, trivial⟩ (fun _ => rfl)
 have e2 : o1 = true := by simpa using g
 refine cL cX 10 aA rfl rfl rfl rfl rfl ⟨rfl, rfl⟩ rfl z76 op.on.toNat hi.symm hil (fun gg hgg => ?_)
 refine bW cX 10 aA rfl rfl rfl rfl rfl rfl rfl rfl hgg op.on.toNat 0 ⟨x1, q0, q1, q2⟩ rfl hil rfl (gW ⟨x1, q0, q1, q2⟩) (fun _ => rfl) z63 ?_
 refine aH aA z88 z88 z88 200 [((0, 0), .v (P.h0.val P.sems.length)), ((0, 1), .v (P.h1.val P.groups.length)), ((0, 2), .v (P.h2.val P.barriers.length)), ((0, 3), .v (P.h3.val P.rooms.length)), ((0, 4), .v (P.h4.val P.threads.length)), ((1, 0), .v (y.h0.val y.places.length)), ((1, 1), .v (y.h1.val y.status.length)), ((1, 2), .v (y.h2.val y.sems.length)), ((1, 3), .v (y.h3.val y.onces.length)), ((1, 4), .v (y.h4.val y.groups.length)), ((1, 5), .v (y.h5.val y.barriers.length)), ((1, 6), .v (y.h6.val y.chans.length)), ((1, 7), .v ((y.h7).val (y.said).length)), ((1, 8), .v (.int .i64 y.fault))] [] [] z90 z92 trivial rfl ?_
 refine AllSl.mk fun zk => ?_
 refine dB (ti := aZ tab) aI 5 aA (xs := told) (ys := [(k : Int)]) rfl rfl rfl rfl rfl rfl rfl rfl rfl (by decide) ⟨rfl, rfl⟩ rfl z31 z37 z37 z86 (fun z5 => ?_)
 refine jL _ [6, 7] (G := [_, _]) lQ rfl rfl rfl rfl ⟨rfl, rfl⟩ ⟨rfl, rfl, trivial⟩ ⟨rfl, rfl, rfl, rfl, trivial⟩ z86 (fun A w hW => (iY _ _ P y _ _ z5 (told ++ [(k : Int)]) (y.pure) w (hW.atG [6, 7] (G := [_, _]) ⟨rfl, rfl, trivial⟩ rfl ⟨rfl, rfl, rfl, rfl, trivial⟩ [14, 0] (Fo := [_, _]) z114 rfl) rfl rfl hnm hn htk z87 hpA hn4)) ?_
 rintro v L ⟨rfl, rfl⟩
 have hlp : (onM P.pure (told ++ [(k : Int)]) (y.pure)).places.length = y.places.length := ((cG _ _ _).1.trans rfl)
 have hls : (onM P.pure (told ++ [(k : Int)]) (y.pure)).status.length = y.status.length := ((cG _ _ _).2.trans rfl)
 obtain ⟨y9, hy9⟩ : ∃ y9 : StateH, y9 = ⟨(onM P.pure (told ++ [(k : Int)]) (y.pure)).places, (onM P.pure (told ++ [(k : Int)]) (y.pure)).status, y.sems, y.onces, y.groups, y.barriers, (y.chans.set op.on.toNat ⟨x1, q0, q1, q2⟩), y.said, y.fault, y.h0, y.h1, y.h2, y.h3, y.h4, y.h5, y.h6, y.h7⟩ := ⟨_, rfl⟩
 have hP : y9.pure = dG P.pure y.pure k op := by
   rw [dG, if_neg (by omega), if_neg (by omega), if_neg (by omega), if_neg (by omega), if_neg (by omega), if_neg (by omega), if_neg (by omega), if_neg (by omega), if_neg (by omega), pW, hxa, hres]
   show _ = if o1 = true then onM P.pure (told ++ [(k : Int)]) (setChan y.pure op x1) else kD y.pure 4
   rw [if_pos e2, iX P.pure (told ++ [(k : Int)]) y.pure (setChan y.pure op x1) rfl rfl, hy9]
   simp only [StateH.pure, setChan, List.map_set]
 have hv : aM y9 = aM y := by
   rw [hy9]; simp only [aM, hlp, hls, List.length_set]
 refine aU (Shift.pack (G := aJ y9) (dC y9 z52 z34)) ?_
 exact iZ [0] ⟨y9, hv.symm, hP, rfl⟩ z118 rfl ⟨rfl, trivial⟩ (fun _ => rfl)
theorem mR0 (P : ProgH) (y : StateH) (k : Nat) (ft : Fits P.pure y.pure) (hm : (k : Int) ∈ dK y.pure) (w : World) (h : AtG w [own y.h0 3 aL 1 y.places, own y.h1 3 aL 1 y.status, own y.h2 85 iU 3 y.sems, own y.h3 98 fP 4 y.onces, own y.h4 88 eQ 2 y.groups, own y.h5 91 dD 3 y.barriers, own y.h6 95 gW 5 y.chans, own y.h7 3 aL 1 y.said, fO (fH y)] [fR (bD P)]) :
   Calls Tryz.prog 162 #[eJ P, aM y, .int .i64 (k : Int)] w (bU0 w [own y.h0 3 aL 1 y.places, own y.h1 3 aL 1 y.status, own y.h2 85 iU 3 y.sems, own y.h3 98 fP 4 y.onces, own y.h4 88 eQ 2 y.groups, own y.h5 91 dD 3 y.barriers, own y.h6 95 gW 5 y.chans, own y.h7 3 aL 1 y.said, fO (fH y)] (DoR (doM P.pure y.pure k))) := by
 obtain ⟨k', ops, a, st, op, hk', r⟩ := rdy ft hm
 obtain rfl : k = k' := by omega
 rw [show doM P.pure y.pure (k : Int) = dG P.pure y.pure k op by rw [doM, r.at_]]
 have hsd : y.said.length ≤ 64 := ft.lsaid
 obtain ⟨e0, e1, hkt, n4, hp0⟩ := r.lens
 have lt : P.pure.threads.length = P.threads.length := by simp [ProgH.pure]
 have hnm : y.places.length = y.status.length := by rw [e0, e1]
 have hn : P.threads.length = y.places.length := e0.symm
 have hn4 : y.places.length ≤ 100 := by omega
 have hkn : 0 ≤ (k : Int) ∧ (k : Int) < (y.places.length : Int) := by omega
 have hw1 : ∀ x ∈ [(k : Int)], 0 ≤ x ∧ x < (y.places.length : Int) := fun x hx => by simp at hx; rw [hx]; exact hkn
 have hpA : ∀ a ∈ y.pure.places, 0 ≤ a ∧ a ≤ 100 := fun x hx => by have := hp0 x hx; omega
 have hkp : k < y.places.length := by omega
 have hth : (P.threads[k]).m = ops := by have := r.h1; simp only [ProgH.pure, List.getElem?_map, List.getElem?_eq_getElem hkt, Option.map_some, Option.some.injEq] at this; exact this
 have hpl : y.places[k] = a := (List.getElem?_eq_some_iff.1 r.h2).2
 have hz : y.places[k] = ((y.places[k]).toNat : Int) := by have := r.a0; rw [hpl]; omega
 have hlo : (y.places[k]).toNat < (P.threads[k]).m.length := by rw [hth, hpl]; exact (List.getElem?_eq_some_iff.1 r.ho).1
 have hopg : (P.threads[k]).m[(y.places[k]).toNat] = op := by
   have := r.ho
   rw [← hth, ← hpl] at this
   exact (List.getElem?_eq_some_iff.1 this).2
 refine pO Tryz.func162 rfl aA w _ rfl _ rfl _ _ h ⟨rfl, rfl, trivial⟩ _ _ rfl rfl ?_
 refine aH aA z88 z88 z88 200 [((0, 4), .v (P.h4.val P.threads.length)), ((1, 0), .v (y.h0.val y.places.length))] [9, 0] [_, _] z107 z116 ⟨rfl, rfl, trivial⟩ rfl ?_
 refine bM (ti := aZ tab) eR aA rfl rfl rfl rfl rfl ⟨rfl, rfl⟩ (aN 0 rfl (.trans (.R_R (bE P)) (.ofR bK))) k rfl z37 (fun ad1 => ?_)
 refine bM (ti := aZ tab) aI aA rfl rfl rfl rfl rfl ⟨rfl, rfl⟩ (aN 1 rfl (Rd.own (o := false) (o' := false))) k rfl z37 (fun ad2 => ?_)
 refine bM (ti := aZ tab) oX aA rfl rfl rfl rfl rfl ⟨rfl, rfl⟩ (aN 0 rfl (.trans (.R_R (bE P)) (.ofR (gD _ _ k hkt)))) (y.places[k]).toNat hz z37 (fun ad3 => ?_)
 rw [hopg]
 refine AllSl.mk fun w0 => ?_
 refine CaseB.mk (fun g => ?_) (fun g1 => ?_)
 · have hk : op.kind = 1 := by simpa using g
   refine AllSl.mk fun zs => ?_
   refine bR aI 9 aA (xs := y.said) (ys := [op.arg]) rfl rfl rfl rfl rfl rfl rfl rfl rfl (by decide) ⟨rfl, rfl⟩ rfl z31 z37 z37 (fun z9 => ?_)
   refine aH aA z88 z88 z88 200 [((0, 0), .v (P.h0.val P.sems.length)), ((0, 1), .v (P.h1.val P.groups.length)), ((0, 2), .v (P.h2.val P.barriers.length)), ((0, 3), .v (P.h3.val P.rooms.length)), ((0, 4), .v (P.h4.val P.threads.length)), ((1, 0), .v (y.h0.val y.places.length)), ((1, 1), .v (y.h1.val y.status.length)), ((1, 2), .v (y.h2.val y.sems.length)), ((1, 3), .v (y.h3.val y.onces.length)), ((1, 4), .v (y.h4.val y.groups.length)), ((1, 5), .v (y.h5.val y.barriers.length)), ((1, 6), .v (y.h6.val y.chans.length)), ((1, 7), .v ((z9).val ((y.said ++ [op.arg])).length)), ((1, 8), .v (.int .i64 y.fault))] [] [] z90 z92 trivial rfl ?_
   refine AllSl.mk fun zk => ?_
   refine dB (ti := aZ tab) aI 3 aA (xs := ([] : List Int)) (ys := [(k : Int)]) rfl rfl rfl rfl rfl rfl rfl rfl rfl (by decide) ⟨rfl, rfl⟩ rfl z31 z37 z37 z86 (fun z5 => ?_)
   refine jL _ [4, 5] (G := [_, _]) lQ rfl rfl rfl rfl ⟨rfl, rfl⟩ ⟨rfl, rfl, trivial⟩ ⟨rfl, rfl, rfl, rfl, trivial⟩ z86 (fun A w hW => (iY _ _ P y _ _ z5 ([(k : Int)]) (y.pure) w (hW.atG [4, 5] (G := [_, _]) ⟨rfl, rfl, trivial⟩ rfl ⟨rfl, rfl, rfl, rfl, trivial⟩ [12, 0] (Fo := [_, _]) z114 rfl) rfl rfl hnm hn hw1 (by simp) hpA hn4)) ?_
   rintro v L ⟨rfl, rfl⟩
   have hlp : (onM P.pure ([(k : Int)]) (y.pure)).places.length = y.places.length := ((cG _ _ _).1.trans rfl)
   have hls : (onM P.pure ([(k : Int)]) (y.pure)).status.length = y.status.length := ((cG _ _ _).2.trans rfl)
   obtain ⟨y9, hy9⟩ : ∃ y9 : StateH, y9 = ⟨(onM P.pure ([(k : Int)]) (y.pure)).places, (onM P.pure ([(k : Int)]) (y.pure)).status, y.sems, y.onces, y.groups, y.barriers, y.chans, (y.said ++ [op.arg]), y.fault, y.h0, y.h1, y.h2, y.h3, y.h4, y.h5, y.h6, z9⟩ := ⟨_, rfl⟩
   have hP : y9.pure = dG P.pure y.pure k op := by
     rw [dG, if_pos hk, iX P.pure [(k : Int)] y.pure (kR y.pure op.arg) rfl rfl, hy9]
     simp only [StateH.pure, kR]
   have hv : aM y9 = .agg #[y.h0.val y.places.length, y.h1.val y.status.length, y.h2.val y.sems.length, y.h3.val y.onces.length, y.h4.val y.groups.length, y.h5.val y.barriers.length, y.h6.val y.chans.length, (z9).val ((y.said ++ [op.arg])).length, .int .i64 y.fault] := by
     rw [hy9]; simp only [aM, hlp, hls]
   refine aU (Shift.pack (G := aJ y9) (dC y9 (by rw [hy9]; exact gK 0 1 6 7 8 9 10 4 rfl rfl rfl rfl rfl rfl rfl rfl) (by rw [hy9]; exact fun g hg => jV 11 rfl hg))) ?_
   exact iZ [0] ⟨y9, hv.symm, hP, rfl⟩ z118 rfl ⟨rfl, trivial⟩ (fun _ => rfl)
 refine CaseB.mk (fun g => ?_) (fun g2 => ?_)
 · have hk : op.kind = 2 := by simpa using g
   obtain ⟨x, hx, hxa, ok, a1, a2, hi⟩ := r.sem (.inl hk)
   have hil : op.on.toNat < y.sems.length := by have := (List.getElem?_eq_some_iff.1 hx).1; simpa [StateH.pure] using this
   have hxe : (y.sems[op.on.toNat]'hil).m = x := by have := hx; simp only [StateH.pure, List.getElem?_map, List.getElem?_eq_getElem hil, Option.map_some, Option.some.injEq] at this; exact this
   subst hxe
   have hnq := fun u (h : aK (bB y.pure) u = []) => (nH hx (y.sems[op.on.toNat]).m).none h
   have hq := bG.1 (hnq _ r.ev)
   obtain ⟨x1, b1, hres⟩ : ∃ x1 b1, (y.sems[op.on.toNat]'hil).m.acquire k op.arg = (x1, b1) := ⟨_, _, rfl⟩
   refine aH aA z88 z88 z88 200 [((1, 2), .v (y.h2.val y.sems.length)), ((3, 1), .v (.int .i64 op.on)), ((3, 2), .v (.int .i64 op.arg))] [3] [_] z102 z113 ⟨rfl, trivial⟩ rfl ?_
   refine bM (ti := aZ tab) dV aA rfl rfl rfl rfl rfl ⟨rfl, rfl⟩ (aN 0 rfl (Rd.own (o := false) (o' := false))) op.on.toNat hi.symm z37 (fun ad5 => ?_)
   refine BothW.mk ?_ ?_
   all_goals
     refine bV _ cl169 rfl rfl rfl rfl ⟨rfl, rfl⟩ (fun A w hW => cX0 _ _ _ _ w ⟨hW.get 9 rfl (.ofO (iP0 y _ hil)), trivial⟩ ok r.thr hq a1 a2) ?_
     rw [hres]
     rintro v L ⟨q1, rfl, rfl⟩
     refine cL dV 4 aA rfl rfl rfl rfl rfl ⟨rfl, rfl⟩ rfl z76 op.on.toNat hi.symm hil (fun gg hgg => ?_)
     refine bW dV 4 aA rfl rfl rfl rfl rfl rfl rfl rfl hgg op.on.toNat 0 ⟨x1, q1⟩ rfl hil rfl (iU ⟨x1, q1⟩) (fun _ => rfl) z63 ?_
     apply CaseB.mk <;> intro g
     · have e5 : ¬ b1 = true := by have e : b1 = false := z85; rw [e]; decide
       refine cL aI 4 aA rfl rfl rfl rfl rfl ⟨rfl, rfl⟩ rfl rfl k rfl (by omega) (fun gs hgs => ?_)
       refine bW aI 4 aA rfl rfl rfl rfl rfl rfl rfl rfl hgs k 0 1 rfl (by omega) rfl [.int .i64 1] (fun _ => rfl) rfl ?_
       have hlp : (bI (y.pure) k 1).places.length = y.places.length := rfl
       have hls : (bI (y.pure) k 1).status.length = y.status.length := ((List.length_set ..).trans rfl)
       obtain ⟨y9, hy9⟩ : ∃ y9 : StateH, y9 = ⟨(bI (y.pure) k 1).places, (bI (y.pure) k 1).status, (y.sems.set op.on.toNat ⟨x1, q1⟩), y.onces, y.groups, y.barriers, y.chans, y.said, y.fault, y.h0, y.h1, y.h2, y.h3, y.h4, y.h5, y.h6, y.h7⟩ := ⟨_, rfl⟩
       have hP : y9.pure = dG P.pure y.pure k op := by
         rw [dG, if_neg (by omega), if_pos hk, kU, hxa, hres]
         show _ = if b1 = true then onM P.pure [(k : Int)] (setSem y.pure op x1) else bI (setSem y.pure op x1) k 1
         rw [if_neg e5, hy9]
         simp only [StateH.pure, setSem, List.map_set, bI]
       have hv : aM y9 = aM y := by
         rw [hy9]; simp only [aM, hlp, hls, List.length_set]
       refine aU (Shift.pack (G := aJ y9) (dC y9 (by rw [hy9]; exact gK 4 0 1 5 6 7 8 9 rfl rfl rfl rfl rfl rfl rfl rfl) (by rw [hy9]; exact fun g hg => (tD hg).elim (fun h => jV 10 rfl h) (fun h => by obtain rfl := List.mem_singleton.1 h; exact kS 2 rfl rfl)))) ?_
       exact iZ [0] ⟨y9, hv.symm, hP, rfl⟩ z118 rfl ⟨rfl, trivial⟩ (fun _ => rfl)
     have e5 : b1 = true := by simpa using g
     refine aH aA z88 z88 z88 200 [((0, 0), .v (P.h0.val P.sems.length)), ((0, 1), .v (P.h1.val P.groups.length)), ((0, 2), .v (P.h2.val P.barriers.length)), ((0, 3), .v (P.h3.val P.rooms.length)), ((0, 4), .v (P.h4.val P.threads.length)), ((1, 0), .v (y.h0.val y.places.length)), ((1, 1), .v (y.h1.val y.status.length)), ((1, 2), .v (y.h2.val y.sems.length)), ((1, 3), .v (y.h3.val y.onces.length)), ((1, 4), .v (y.h4.val y.groups.length)), ((1, 5), .v (y.h5.val y.barriers.length)), ((1, 6), .v (y.h6.val y.chans.length)), ((1, 7), .v ((y.h7).val (y.said).length)), ((1, 8), .v (.int .i64 y.fault))] [] [] z90 z92 trivial rfl ?_
     refine AllSl.mk fun zk => ?_
     refine dB (ti := aZ tab) aI 3 aA (xs := ([] : List Int)) (ys := [(k : Int)]) rfl rfl rfl rfl rfl rfl rfl rfl rfl (by decide) ⟨rfl, rfl⟩ rfl z31 z37 z37 z86 (fun z5 => ?_)
     refine jL _ [4, 5] (G := [_, _]) lQ rfl rfl rfl rfl ⟨rfl, rfl⟩ ⟨rfl, rfl, trivial⟩ ⟨rfl, rfl, rfl, rfl, trivial⟩ z86 (fun A w hW => (iY _ _ P y _ _ z5 ([(k : Int)]) (y.pure) w (hW.atG [4, 5] (G := [_, _]) ⟨rfl, rfl, trivial⟩ rfl ⟨rfl, rfl, rfl, rfl, trivial⟩ [12, 0] (Fo := [_, _]) z114 rfl) rfl rfl hnm hn hw1 (by simp) hpA hn4)) ?_
     rintro v L ⟨rfl, rfl⟩
     have hlp : (onM P.pure ([(k : Int)]) (y.pure)).places.length = y.places.length := ((cG _ _ _).1.trans rfl)
     have hls : (onM P.pure ([(k : Int)]) (y.pure)).status.length = y.status.length := ((cG _ _ _).2.trans rfl)
     obtain ⟨y9, hy9⟩ : ∃ y9 : StateH, y9 = ⟨(onM P.pure ([(k : Int)]) (y.pure)).places, (onM P.pure ([(k : Int)]) (y.pure)).status, (y.sems.set op.on.toNat ⟨x1, q1⟩), y.onces, y.groups, y.barriers, y.chans, y.said, y.fault, y.h0, y.h1, y.h2, y.h3, y.h4, y.h5, y.h6, y.h7⟩ := ⟨_, rfl⟩
     have hP : y9.pure = dG P.pure y.pure k op := by
       rw [dG, if_neg (by omega), if_pos hk, kU, hxa, hres]
       show _ = if b1 = true then onM P.pure [(k : Int)] (setSem y.pure op x1) else bI (setSem y.pure op x1) k 1
       rw [if_pos e5, iX P.pure [(k : Int)] y.pure (setSem y.pure op x1) rfl rfl, hy9]
       simp only [StateH.pure, setSem, List.map_set]
     have hv : aM y9 = aM y := by
       rw [hy9]; simp only [aM, hlp, hls, List.length_set]
     refine aU (Shift.pack (G := aJ y9) (dC y9 (by rw [hy9]; exact gK 0 1 4 6 7 8 9 10 rfl rfl rfl rfl rfl rfl rfl rfl) (by rw [hy9]; exact fun g hg => (tD hg).elim (fun h => jV 11 rfl h) (fun h => by obtain rfl := List.mem_singleton.1 h; exact kS 5 rfl rfl)))) ?_
     exact iZ [0] ⟨y9, hv.symm, hP, rfl⟩ z118 rfl ⟨rfl, trivial⟩ (fun _ => rfl)
 refine CaseB.mk (fun g => ?_) (fun g3 => ?_)
 · have hk : op.kind = 3 := by simpa using g
   obtain ⟨x, hx, hxa, ok, a1, a2, hi⟩ := r.sem (.inr hk)
   have hil : op.on.toNat < y.sems.length := by have := (List.getElem?_eq_some_iff.1 hx).1; simpa [StateH.pure] using this
   have hxe : (y.sems[op.on.toNat]'hil).m = x := by have := hx; simp only [StateH.pure, List.getElem?_map, List.getElem?_eq_getElem hil, Option.map_some, Option.some.injEq] at this; exact this
   subst hxe
   have hnq := fun u (h : aK (bB y.pure) u = []) => (nH hx (y.sems[op.on.toNat]).m).none h
   rcases hres : (y.sems[op.on.toNat]'hil).m.release op.arg with _ | ⟨x1, told⟩
   · skip
     refine aH aA z88 z88 z88 200 [((1, 2), .v (y.h2.val y.sems.length)), ((3, 1), .v (.int .i64 op.on)), ((3, 2), .v (.int .i64 op.arg))] [3] [_] z102 z113 ⟨rfl, trivial⟩ rfl ?_
     refine bM (ti := aZ tab) dV aA rfl rfl rfl rfl rfl ⟨rfl, rfl⟩ (aN 0 rfl (Rd.own (o := false) (o' := false))) op.on.toNat hi.symm z37 (fun ad5 => ?_)
     refine BothW.mk ?_ ?_
     all_goals
       refine bV _ kX0 rfl rfl rfl rfl ⟨rfl, rfl⟩ (fun A w hW => wL _ _ _ w ⟨hW.get 9 rfl (.ofO (iP0 y _ hil)), trivial⟩ ok a1 a2) ?_
       rw [hres]
       rintro v L ⟨q1, z1, rfl, rfl⟩
       refine CaseB.mk (fun _ => ?_) (fun g => by simp at g)
       refine aB _ dK0 rfl rfl rfl rfl ⟨rfl, rfl⟩ (fun A w hW => sJ y 1 w) ?_
       rintro v L ⟨rfl, rfl⟩
       have hlp : (y.pure).places.length = y.places.length := rfl
       have hls : (y.pure).status.length = y.status.length := rfl
       obtain ⟨y9, hy9⟩ : ∃ y9 : StateH, y9 = ⟨(y.pure).places, (y.pure).status, y.sems, y.onces, y.groups, y.barriers, y.chans, y.said, 1, y.h0, y.h1, y.h2, y.h3, y.h4, y.h5, y.h6, y.h7⟩ := ⟨_, rfl⟩
       have hP : y9.pure = dG P.pure y.pure k op := by
         rw [dG, if_neg (by omega), if_neg (by omega), if_pos hk, kV, hxa, hres, hy9]
         rfl
       have hv : aM y9 = .agg #[y.h0.val y.places.length, y.h1.val y.status.length, y.h2.val y.sems.length, y.h3.val y.onces.length, y.h4.val y.groups.length, y.h5.val y.barriers.length, y.h6.val y.chans.length, (y.h7).val (y.said).length, .int .i64 1] := by
         rw [hy9]; simp only [aM, hlp, hls]
       refine aU (Shift.pack (G := aJ y9) (dC y9 z56 z70)) ?_
       exact iZ [0] ⟨y9, hv.symm, hP, rfl⟩ z118 rfl ⟨rfl, trivial⟩ (fun _ => rfl)
   have htin := zL ok a1 hres
   have htl : told.length ≤ 100 := by omega
   have htold : ∀ u ∈ told, 0 ≤ u ∧ u < (y.places.length : Int) := fun u hu => by
     have := r.ft.isIn fun h0 => bG.1 (hnq u h0) (htin.1 u hu)
     rw [lt] at this
     omega
   have htk : ∀ u ∈ told ++ [(k : Int)], 0 ≤ u ∧ u < (y.places.length : Int) := fun u hu => by
     rcases List.mem_append.1 hu with hu | hu
     · exact htold u hu
     · exact hw1 u hu
   refine aH aA z88 z88 z88 200 [((1, 2), .v (y.h2.val y.sems.length)), ((3, 1), .v (.int .i64 op.on)), ((3, 2), .v (.int .i64 op.arg))] [3] [_] z102 z113 ⟨rfl, trivial⟩ rfl ?_
   refine bM (ti := aZ tab) dV aA rfl rfl rfl rfl rfl ⟨rfl, rfl⟩ (aN 0 rfl (Rd.own (o := false) (o' := false))) op.on.toNat hi.symm z37 (fun ad5 => ?_)
   refine BothW.mk ?_ ?_
   all_goals
     refine bV _ kX0 rfl rfl rfl rfl ⟨rfl, rfl⟩ (fun A w hW => wL _ _ _ w ⟨hW.get 9 rfl (.ofO (iP0 y _ hil)), trivial⟩ ok a1 a2) ?_
     rw [hres]
     rintro v L ⟨q1, z1, rfl, rfl⟩
     refine CaseB.mk (fun g => by simp at g) (fun _ => ?_)
     refine cL dV 5 aA rfl rfl rfl rfl rfl ⟨rfl, rfl⟩ rfl z76 op.on.toNat hi.symm hil (fun gg hgg => ?_)
     refine bW dV 5 aA rfl rfl rfl rfl rfl rfl rfl rfl hgg op.on.toNat 0 ⟨x1, q1⟩ rfl hil rfl (iU ⟨x1, q1⟩) (fun _ => rfl) z63 ?_
     refine aH aA z88 z88 z88 200 [((0, 0), .v (P.h0.val P.sems.length)), ((0, 1), .v (P.h1.val P.groups.length)), ((0, 2), .v (P.h2.val P.barriers.length)), ((0, 3), .v (P.h3.val P.rooms.length)), ((0, 4), .v (P.h4.val P.threads.length)), ((1, 0), .v (y.h0.val y.places.length)), ((1, 1), .v (y.h1.val y.status.length)), ((1, 2), .v (y.h2.val y.sems.length)), ((1, 3), .v (y.h3.val y.onces.length)), ((1, 4), .v (y.h4.val y.groups.length)), ((1, 5), .v (y.h5.val y.barriers.length)), ((1, 6), .v (y.h6.val y.chans.length)), ((1, 7), .v ((y.h7).val (y.said).length)), ((1, 8), .v (.int .i64 y.fault))] [] [] z90 z92 trivial rfl ?_
     refine AllSl.mk fun zk => ?_
     refine dB (ti := aZ tab) aI 3 aA (xs := told) (ys := [(k : Int)]) rfl rfl rfl rfl rfl rfl rfl rfl rfl (by decide) ⟨rfl, rfl⟩ rfl z31 z37 z37 z86 (fun z5 => ?_)
     refine jL _ [5, 6] (G := [_, _]) lQ rfl rfl rfl rfl ⟨rfl, rfl⟩ ⟨rfl, rfl, trivial⟩ ⟨rfl, rfl, rfl, rfl, trivial⟩ z86 (fun A w hW => (iY _ _ P y _ _ z5 (told ++ [(k : Int)]) (y.pure) w (hW.atG [5, 6] (G := [_, _]) ⟨rfl, rfl, trivial⟩ rfl ⟨rfl, rfl, rfl, rfl, trivial⟩ [13, 0] (Fo := [_, _]) z114 rfl) rfl rfl hnm hn htk z87 hpA hn4)) ?_
     rintro v L ⟨rfl, rfl⟩
     have hlp : (onM P.pure (told ++ [(k : Int)]) (y.pure)).places.length = y.places.length := ((cG _ _ _).1.trans rfl)
     have hls : (onM P.pure (told ++ [(k : Int)]) (y.pure)).status.length = y.status.length := ((cG _ _ _).2.trans rfl)
     obtain ⟨y9, hy9⟩ : ∃ y9 : StateH, y9 = ⟨(onM P.pure (told ++ [(k : Int)]) (y.pure)).places, (onM P.pure (told ++ [(k : Int)]) (y.pure)).status, (y.sems.set op.on.toNat ⟨x1, q1⟩), y.onces, y.groups, y.barriers, y.chans, y.said, y.fault, y.h0, y.h1, y.h2, y.h3, y.h4, y.h5, y.h6, y.h7⟩ := ⟨_, rfl⟩
     have hP : y9.pure = dG P.pure y.pure k op := by
       rw [dG, if_neg (by omega), if_neg (by omega), if_pos hk, kV, hxa, hres]
       show _ = onM P.pure (told ++ [(k : Int)]) (setSem y.pure op x1)
       rw [iX P.pure (told ++ [(k : Int)]) y.pure (setSem y.pure op x1) rfl rfl, hy9]
       simp only [StateH.pure, setSem, List.map_set]
     have hv : aM y9 = aM y := by
       rw [hy9]; simp only [aM, hlp, hls, List.length_set]
     refine aU (Shift.pack (G := aJ y9) (dC y9 (by rw [hy9]; exact gK 0 1 4 7 8 9 10 11 rfl rfl rfl rfl rfl rfl rfl rfl) (by rw [hy9]; exact fun g hg => (tD hg).elim (fun h => jV 12 rfl h) (fun h => by obtain rfl := List.mem_singleton.1 h; exact kS 5 rfl rfl)))) ?_
     exact iZ [0] ⟨y9, hv.symm, hP, rfl⟩ z118 rfl ⟨rfl, trivial⟩ (fun _ => rfl)
 refine CaseB.mk (fun g => ?_) (fun g4 => ?_)
 · have hk : op.kind = 4 := by simpa using g
   refine hY _ [1, 2, 3, 4, 5, 6, 7, 8, 9] (G := [_, _, _, _, _, _, _, _, _]) cl172 rfl rfl rfl rfl ⟨rfl, rfl⟩ z106 z95 (fun A w hW => (iR0 P y k op r hk w (hW.atG [1, 2, 3, 4, 5, 6, 7, 8, 9] (G := [_, _, _, _, _, _, _, _, _]) z106 rfl z95 [10] (Fo := [_]) ⟨⟨_, rfl, z49⟩, trivial⟩ rfl))) ?_
   rintro v L ⟨y2, rfl, hy2, rfl⟩
   exact iZ [0] ⟨y2, rfl, hy2, rfl⟩ z118 rfl ⟨rfl, trivial⟩ (fun _ => rfl)
 refine CaseB.mk (fun g => ?_) (fun g5 => ?_)
 · have hk : op.kind = 5 := by simpa using g
   obtain ⟨x, hx, hxa, ok, ha, hi⟩ := r.group (.inl hk)
   have hil : op.on.toNat < y.groups.length := by have := (List.getElem?_eq_some_iff.1 hx).1; simpa [StateH.pure] using this
   have hxe : (y.groups[op.on.toNat]'hil).m = x := by have := hx; simp only [StateH.pure, List.getElem?_map, List.getElem?_eq_getElem hil, Option.map_some, Option.some.injEq] at this; exact this
   subst hxe
   have hnq := fun u (h : aK (bB y.pure) u = []) => (jU hx (y.groups[op.on.toNat]).m).none h
   rcases hres : (y.groups[op.on.toNat]'hil).m.add op.arg with _ | ⟨x1, told⟩
   · skip
     refine aH aA z88 z88 z88 200 [((1, 4), .v (y.h4.val y.groups.length)), ((3, 1), .v (.int .i64 op.on)), ((3, 2), .v (.int .i64 op.arg))] [5] [_] z102 z113 ⟨rfl, trivial⟩ rfl ?_
     refine bM (ti := aZ tab) cP aA rfl rfl rfl rfl rfl ⟨rfl, rfl⟩ (aN 0 rfl (Rd.own (o := false) (o' := false))) op.on.toNat hi.symm z37 (fun ad5 => ?_)
     refine BothW.mk ?_ ?_
     all_goals
       refine bV _ kY0 rfl rfl rfl rfl ⟨rfl, rfl⟩ (fun A w hW => iO0 _ _ _ w ⟨hW.get 9 rfl (.ofO (zM y _ hil)), trivial⟩ ok (ha hk).1 (ha hk).2) ?_
       rw [hres]
       rintro v L ⟨q1, z1, rfl, rfl⟩
       refine CaseB.mk (fun _ => ?_) (fun g => by simp at g)
       refine aB _ dK0 rfl rfl rfl rfl ⟨rfl, rfl⟩ (fun A w hW => sJ y 2 w) ?_
       rintro v L ⟨rfl, rfl⟩
       have hlp : (y.pure).places.length = y.places.length := rfl
       have hls : (y.pure).status.length = y.status.length := rfl
       obtain ⟨y9, hy9⟩ : ∃ y9 : StateH, y9 = ⟨(y.pure).places, (y.pure).status, y.sems, y.onces, y.groups, y.barriers, y.chans, y.said, 2, y.h0, y.h1, y.h2, y.h3, y.h4, y.h5, y.h6, y.h7⟩ := ⟨_, rfl⟩
       have hP : y9.pure = dG P.pure y.pure k op := by
         rw [dG, if_neg (by omega), if_neg (by omega), if_neg (by omega), if_neg (by omega), if_pos hk, xV, hxa, hres, hy9]
         rfl
       have hv : aM y9 = .agg #[y.h0.val y.places.length, y.h1.val y.status.length, y.h2.val y.sems.length, y.h3.val y.onces.length, y.h4.val y.groups.length, y.h5.val y.barriers.length, y.h6.val y.chans.length, (y.h7).val (y.said).length, .int .i64 2] := by
         rw [hy9]; simp only [aM, hlp, hls]
       refine aU (Shift.pack (G := aJ y9) (dC y9 z56 z70)) ?_
       exact iZ [0] ⟨y9, hv.symm, hP, rfl⟩ z118 rfl ⟨rfl, trivial⟩ (fun _ => rfl)
   have htin := iI0 ok hres
   have htl : told.length ≤ 100 := by omega
   have htold : ∀ u ∈ told, 0 ≤ u ∧ u < (y.places.length : Int) := fun u hu => by
     have := r.ft.isIn fun h0 => (bG (g := fun t : Int => t)).1 (hnq u h0) (by simpa using htin.1 u hu)
     rw [lt] at this
     omega
   have htk : ∀ u ∈ told ++ [(k : Int)], 0 ≤ u ∧ u < (y.places.length : Int) := fun u hu => by
     rcases List.mem_append.1 hu with hu | hu
     · exact htold u hu
     · exact hw1 u hu
   refine aH aA z88 z88 z88 200 [((1, 4), .v (y.h4.val y.groups.length)), ((3, 1), .v (.int .i64 op.on)), ((3, 2), .v (.int .i64 op.arg))] [5] [_] z102 z113 ⟨rfl, trivial⟩ rfl ?_
   refine bM (ti := aZ tab) cP aA rfl rfl rfl rfl rfl ⟨rfl, rfl⟩ (aN 0 rfl (Rd.own (o := false) (o' := false))) op.on.toNat hi.symm z37 (fun ad5 => ?_)
   refine BothW.mk ?_ ?_
   all_goals
     refine bV _ kY0 rfl rfl rfl rfl ⟨rfl, rfl⟩ (fun A w hW => iO0 _ _ _ w ⟨hW.get 9 rfl (.ofO (zM y _ hil)), trivial⟩ ok (ha hk).1 (ha hk).2) ?_
     rw [hres]
     rintro v L ⟨q1, z1, rfl, rfl⟩
     refine CaseB.mk (fun g => by simp at g) (fun _ => ?_)
     refine cL cP 7 aA rfl rfl rfl rfl rfl ⟨rfl, rfl⟩ rfl z76 op.on.toNat hi.symm hil (fun gg hgg => ?_)
     refine bW cP 7 aA rfl rfl rfl rfl rfl rfl rfl rfl hgg op.on.toNat 0 ⟨x1, q1⟩ rfl hil rfl (eQ ⟨x1, q1⟩) (fun _ => rfl) z63 ?_
     refine aH aA z88 z88 z88 200 [((0, 0), .v (P.h0.val P.sems.length)), ((0, 1), .v (P.h1.val P.groups.length)), ((0, 2), .v (P.h2.val P.barriers.length)), ((0, 3), .v (P.h3.val P.rooms.length)), ((0, 4), .v (P.h4.val P.threads.length)), ((1, 0), .v (y.h0.val y.places.length)), ((1, 1), .v (y.h1.val y.status.length)), ((1, 2), .v (y.h2.val y.sems.length)), ((1, 3), .v (y.h3.val y.onces.length)), ((1, 4), .v (y.h4.val y.groups.length)), ((1, 5), .v (y.h5.val y.barriers.length)), ((1, 6), .v (y.h6.val y.chans.length)), ((1, 7), .v ((y.h7).val (y.said).length)), ((1, 8), .v (.int .i64 y.fault))] [] [] z90 z92 trivial rfl ?_
     refine AllSl.mk fun zk => ?_
     refine dB (ti := aZ tab) aI 3 aA (xs := told) (ys := [(k : Int)]) rfl rfl rfl rfl rfl rfl rfl rfl rfl (by decide) ⟨rfl, rfl⟩ rfl z31 z37 z37 z86 (fun z5 => ?_)
     refine jL _ [5, 6] (G := [_, _]) lQ rfl rfl rfl rfl ⟨rfl, rfl⟩ ⟨rfl, rfl, trivial⟩ ⟨rfl, rfl, rfl, rfl, trivial⟩ z86 (fun A w hW => (iY _ _ P y _ _ z5 (told ++ [(k : Int)]) (y.pure) w (hW.atG [5, 6] (G := [_, _]) ⟨rfl, rfl, trivial⟩ rfl ⟨rfl, rfl, rfl, rfl, trivial⟩ [13, 0] (Fo := [_, _]) z114 rfl) rfl rfl hnm hn htk z87 hpA hn4)) ?_
     rintro v L ⟨rfl, rfl⟩
     have hlp : (onM P.pure (told ++ [(k : Int)]) (y.pure)).places.length = y.places.length := ((cG _ _ _).1.trans rfl)
     have hls : (onM P.pure (told ++ [(k : Int)]) (y.pure)).status.length = y.status.length := ((cG _ _ _).2.trans rfl)
     obtain ⟨y9, hy9⟩ : ∃ y9 : StateH, y9 = ⟨(onM P.pure (told ++ [(k : Int)]) (y.pure)).places, (onM P.pure (told ++ [(k : Int)]) (y.pure)).status, y.sems, y.onces, (y.groups.set op.on.toNat ⟨x1, q1⟩), y.barriers, y.chans, y.said, y.fault, y.h0, y.h1, y.h2, y.h3, y.h4, y.h5, y.h6, y.h7⟩ := ⟨_, rfl⟩
     have hP : y9.pure = dG P.pure y.pure k op := by
       rw [dG, if_neg (by omega), if_neg (by omega), if_neg (by omega), if_neg (by omega), if_pos hk, xV, hxa, hres]
       show _ = onM P.pure (told ++ [(k : Int)]) (setGroup y.pure op x1)
       rw [iX P.pure (told ++ [(k : Int)]) y.pure (setGroup y.pure op x1) rfl rfl, hy9]
       simp only [StateH.pure, setGroup, List.map_set]
     have hv : aM y9 = aM y := by
       rw [hy9]; simp only [aM, hlp, hls, List.length_set]
     refine aU (Shift.pack (G := aJ y9) (dC y9 (by rw [hy9]; exact gK 0 1 7 8 4 9 10 11 rfl rfl rfl rfl rfl rfl rfl rfl) (by rw [hy9]; exact fun g hg => (pG hg).elim (fun h => jV 12 rfl h) (fun h => by obtain rfl := List.mem_singleton.1 h; exact kS 5 rfl rfl)))) ?_
     exact iZ [0] ⟨y9, hv.symm, hP, rfl⟩ z118 rfl ⟨rfl, trivial⟩ (fun _ => rfl)
 refine CaseB.mk (fun g => ?_) (fun g6 => ?_)
 · have hk : op.kind = 6 := by simpa using g
   obtain ⟨x, hx, hxa, ok, ha, hi⟩ := r.group (.inr hk)
   have hil : op.on.toNat < y.groups.length := by have := (List.getElem?_eq_some_iff.1 hx).1; simpa [StateH.pure] using this
   have hxe : (y.groups[op.on.toNat]'hil).m = x := by have := hx; simp only [StateH.pure, List.getElem?_map, List.getElem?_eq_getElem hil, Option.map_some, Option.some.injEq] at this; exact this
   subst hxe
   have hnq := fun u (h : aK (bB y.pure) u = []) => (jU hx (y.groups[op.on.toNat]).m).none h
   have hq : (k : Int) ∉ (y.groups[op.on.toNat]'hil).m.waits := by simpa using (bG (g := fun t : Int => t)).1 (hnq _ r.ev)
   obtain ⟨x1, b1, hres⟩ : ∃ x1 b1, (y.groups[op.on.toNat]'hil).m.wait k = (x1, b1) := ⟨_, _, rfl⟩
   refine aF cP aA rfl rfl rfl rfl rfl ⟨rfl, rfl⟩ (aN 5 rfl (Rd.own (o := false) (o' := false))) op.on.toNat hi.symm z37 (fun ad5 => ?_)
   refine aB _ cl174 rfl rfl rfl rfl ⟨rfl, rfl⟩ (fun A w hW => kI0 _ _ _ w ⟨hW.get 9 rfl (.ofO (zM y _ hil)), trivial⟩ ok r.thr hq) ?_
   rw [hres]
   rintro v L ⟨q1, rfl, rfl⟩
   refine cL cP 6 aA rfl rfl rfl rfl rfl ⟨rfl, rfl⟩ rfl z76 op.on.toNat hi.symm hil (fun gg hgg => ?_)
   refine bW cP 6 aA rfl rfl rfl rfl rfl rfl rfl rfl hgg op.on.toNat 0 ⟨x1, q1⟩ rfl hil rfl (eQ ⟨x1, q1⟩) (fun _ => rfl) z63 ?_
   apply CaseB.mk <;> intro g
   · have e5 : ¬ b1 = true := by have e : b1 = false := z85; rw [e]; decide
     refine cL aI 4 aA rfl rfl rfl rfl rfl ⟨rfl, rfl⟩ rfl rfl k rfl (by omega) (fun gs hgs => ?_)
     refine bW aI 4 aA rfl rfl rfl rfl rfl rfl rfl rfl hgs k 0 1 rfl (by omega) rfl [.int .i64 1] (fun _ => rfl) rfl ?_
     have hlp : (bI (y.pure) k 1).places.length = y.places.length := rfl
     have hls : (bI (y.pure) k 1).status.length = y.status.length := ((List.length_set ..).trans rfl)
     obtain ⟨y9, hy9⟩ : ∃ y9 : StateH, y9 = ⟨(bI (y.pure) k 1).places, (bI (y.pure) k 1).status, y.sems, y.onces, (y.groups.set op.on.toNat ⟨x1, q1⟩), y.barriers, y.chans, y.said, y.fault, y.h0, y.h1, y.h2, y.h3, y.h4, y.h5, y.h6, y.h7⟩ := ⟨_, rfl⟩
     have hP : y9.pure = dG P.pure y.pure k op := by
       rw [dG, if_neg (by omega), if_neg (by omega), if_neg (by omega), if_neg (by omega), if_neg (by omega), if_pos hk, tC, hxa, hres]
       show _ = if b1 = true then onM P.pure [(k : Int)] (setGroup y.pure op x1) else bI (setGroup y.pure op x1) k 1
       rw [if_neg e5, hy9]
       simp only [StateH.pure, setGroup, List.map_set, bI]
     have hv : aM y9 = aM y := by
       rw [hy9]; simp only [aM, hlp, hls, List.length_set]
     refine aU (Shift.pack (G := aJ y9) (dC y9 (by rw [hy9]; exact gK 4 0 5 6 1 7 8 9 rfl rfl rfl rfl rfl rfl rfl rfl) (by rw [hy9]; exact fun g hg => (pG hg).elim (fun h => jV 10 rfl h) (fun h => by obtain rfl := List.mem_singleton.1 h; exact kS 2 rfl rfl)))) ?_
     exact iZ [0] ⟨y9, hv.symm, hP, rfl⟩ z118 rfl ⟨rfl, trivial⟩ (fun _ => rfl)
   have e5 : b1 = true := by simpa using g
   refine aH aA z88 z88 z88 200 [((0, 0), .v (P.h0.val P.sems.length)), ((0, 1), .v (P.h1.val P.groups.length)), ((0, 2), .v (P.h2.val P.barriers.length)), ((0, 3), .v (P.h3.val P.rooms.length)), ((0, 4), .v (P.h4.val P.threads.length)), ((1, 0), .v (y.h0.val y.places.length)), ((1, 1), .v (y.h1.val y.status.length)), ((1, 2), .v (y.h2.val y.sems.length)), ((1, 3), .v (y.h3.val y.onces.length)), ((1, 4), .v (y.h4.val y.groups.length)), ((1, 5), .v (y.h5.val y.barriers.length)), ((1, 6), .v (y.h6.val y.chans.length)), ((1, 7), .v ((y.h7).val (y.said).length)), ((1, 8), .v (.int .i64 y.fault))] [] [] z90 z92 trivial rfl ?_
   refine AllSl.mk fun zk => ?_
   refine dB (ti := aZ tab) aI 3 aA (xs := ([] : List Int)) (ys := [(k : Int)]) rfl rfl rfl rfl rfl rfl rfl rfl rfl (by decide) ⟨rfl, rfl⟩ rfl z31 z37 z37 z86 (fun z5 => ?_)
   refine jL _ [4, 5] (G := [_, _]) lQ rfl rfl rfl rfl ⟨rfl, rfl⟩ ⟨rfl, rfl, trivial⟩ ⟨rfl, rfl, rfl, rfl, trivial⟩ z86 (fun A w hW => (iY _ _ P y _ _ z5 ([(k : Int)]) (y.pure) w (hW.atG [4, 5] (G := [_, _]) ⟨rfl, rfl, trivial⟩ rfl ⟨rfl, rfl, rfl, rfl, trivial⟩ [12, 0] (Fo := [_, _]) z114 rfl) rfl rfl hnm hn hw1 (by simp) hpA hn4)) ?_
   rintro v L ⟨rfl, rfl⟩
   have hlp : (onM P.pure ([(k : Int)]) (y.pure)).places.length = y.places.length := ((cG _ _ _).1.trans rfl)
   have hls : (onM P.pure ([(k : Int)]) (y.pure)).status.length = y.status.length := ((cG _ _ _).2.trans rfl)
   obtain ⟨y9, hy9⟩ : ∃ y9 : StateH, y9 = ⟨(onM P.pure ([(k : Int)]) (y.pure)).places, (onM P.pure ([(k : Int)]) (y.pure)).status, y.sems, y.onces, (y.groups.set op.on.toNat ⟨x1, q1⟩), y.barriers, y.chans, y.said, y.fault, y.h0, y.h1, y.h2, y.h3, y.h4, y.h5, y.h6, y.h7⟩ := ⟨_, rfl⟩
   have hP : y9.pure = dG P.pure y.pure k op := by
     rw [dG, if_neg (by omega), if_neg (by omega), if_neg (by omega), if_neg (by omega), if_neg (by omega), if_pos hk, tC, hxa, hres]
     show _ = if b1 = true then onM P.pure [(k : Int)] (setGroup y.pure op x1) else bI (setGroup y.pure op x1) k 1
     rw [if_pos e5, iX P.pure [(k : Int)] y.pure (setGroup y.pure op x1) rfl rfl, hy9]
     simp only [StateH.pure, setGroup, List.map_set]
   have hv : aM y9 = aM y := by
     rw [hy9]; simp only [aM, hlp, hls, List.length_set]
   refine aU (Shift.pack (G := aJ y9) (dC y9 (by rw [hy9]; exact gK 0 1 6 7 4 8 9 10 rfl rfl rfl rfl rfl rfl rfl rfl) (by rw [hy9]; exact fun g hg => (pG hg).elim (fun h => jV 11 rfl h) (fun h => by obtain rfl := List.mem_singleton.1 h; exact kS 5 rfl rfl)))) ?_
   exact iZ [0] ⟨y9, hv.symm, hP, rfl⟩ z118 rfl ⟨rfl, trivial⟩ (fun _ => rfl)
 refine CaseB.mk (fun g => ?_) (fun g7 => ?_)
 · have hk : op.kind = 7 := by simpa using g
   obtain ⟨x, hx, hxa, ok, hi⟩ := r.barrier hk
   have hil : op.on.toNat < y.barriers.length := by have := (List.getElem?_eq_some_iff.1 hx).1; simpa [StateH.pure] using this
   have hxe : (y.barriers[op.on.toNat]'hil).m = x := by have := hx; simp only [StateH.pure, List.getElem?_map, List.getElem?_eq_getElem hil, Option.map_some, Option.some.injEq] at this; exact this
   subst hxe
   have hnq := fun u (h : aK (bB y.pure) u = []) => (mM hx (y.barriers[op.on.toNat]).m).none h
   have hq : (k : Int) ∉ (y.barriers[op.on.toNat]'hil).m.waits := by simpa using (bG (g := fun t : Int => t)).1 (hnq _ r.ev)
   refine aF cH aA rfl rfl rfl rfl rfl ⟨rfl, rfl⟩ (aN 6 rfl (Rd.own (o := false) (o' := false))) op.on.toNat hi.symm z37 (fun ad5 => ?_)
   rcases hres : (y.barriers[op.on.toNat]'hil).m.arrive k with _ | ⟨x1, told⟩
   · refine aB _ kZ0 rfl rfl rfl rfl ⟨rfl, rfl⟩ (fun A w hW => xZ _ _ _ w ⟨hW.get 9 rfl (.ofO (yA y _ hil)), trivial⟩ ok r.thr hq) ?_
     rw [hres]
     rintro v L ⟨z1, rfl, rfl⟩
     refine cL cH 6 aA rfl rfl rfl rfl rfl ⟨rfl, rfl⟩ rfl z76 op.on.toNat hi.symm hil (fun gg hgg => ?_)
     refine bW cH 6 aA rfl rfl rfl rfl rfl rfl rfl rfl hgg op.on.toNat 0 ⟨⟨0, 0, []⟩, nI⟩ rfl hil rfl (dD ⟨⟨0, 0, []⟩, nI⟩) (fun _ => rfl) z63 ?_
     refine CaseB.mk (fun g => by simp at g) (fun _ => ?_)
     refine cL aI 3 aA rfl rfl rfl rfl rfl ⟨rfl, rfl⟩ rfl rfl k rfl (by omega) (fun gs hgs => ?_)
     refine bW aI 3 aA rfl rfl rfl rfl rfl rfl rfl rfl hgs k 0 1 rfl (by omega) rfl [.int .i64 1] (fun _ => rfl) rfl ?_
     have hlp : (bI (y.pure) k 1).places.length = y.places.length := rfl
     have hls : (bI (y.pure) k 1).status.length = y.status.length := ((List.length_set ..).trans rfl)
     obtain ⟨y9, hy9⟩ : ∃ y9 : StateH, y9 = ⟨(bI (y.pure) k 1).places, (bI (y.pure) k 1).status, y.sems, y.onces, y.groups, (y.barriers.set op.on.toNat ⟨⟨0, 0, []⟩, nI⟩), y.chans, y.said, y.fault, y.h0, y.h1, y.h2, y.h3, y.h4, y.h5, y.h6, y.h7⟩ := ⟨_, rfl⟩
     have hP : y9.pure = dG P.pure y.pure k op := by
       rw [dG, if_neg (by omega), if_neg (by omega), if_neg (by omega), if_neg (by omega), if_neg (by omega), if_neg (by omega), if_pos hk, iW, hxa, hres, hy9]
       simp only [StateH.pure, setBarrier, List.map_set, bI]
     have hv : aM y9 = aM y := by
       rw [hy9]; simp only [aM, hlp, hls, List.length_set]
     refine aU (Shift.pack (G := aJ y9) (dC y9 (by rw [hy9]; exact gK 3 0 4 5 6 1 7 8 rfl rfl rfl rfl rfl rfl rfl rfl) (by rw [hy9]; exact fun g hg => (mO hg).elim (fun h => jV 9 rfl h) (fun h => by obtain rfl := List.mem_singleton.1 h; exact nilN 9 rfl)))) ?_
     exact iZ [0] ⟨y9, hv.symm, hP, rfl⟩ z118 rfl ⟨rfl, trivial⟩ (fun _ => rfl)
   have htin := bA0 ok hres
   have htl : told.length ≤ 100 := by omega
   have htold : ∀ u ∈ told, 0 ≤ u ∧ u < (y.places.length : Int) := fun u hu => by
     by_cases hne : u = k
     · rw [hne]; exact hkn
     have := r.ft.isIn fun h0 => (htin.1 u hu).elim (fun hu => (bG (g := fun t : Int => t)).1 (hnq u h0) (by simpa using hu)) (fun hu => hne hu)
     rw [lt] at this
     omega
   have htk : ∀ u ∈ told ++ [(k : Int)], 0 ≤ u ∧ u < (y.places.length : Int) := fun u hu => by
     rcases List.mem_append.1 hu with hu | hu
     · exact htold u hu
     · exact hw1 u hu
   refine aB _ kZ0 rfl rfl rfl rfl ⟨rfl, rfl⟩ (fun A w hW => xZ _ _ _ w ⟨hW.get 9 rfl (.ofO (yA y _ hil)), trivial⟩ ok r.thr hq) ?_
   rw [hres]
   rintro v L ⟨q1, z1, rfl, rfl⟩
   refine cL cH 8 aA rfl rfl rfl rfl rfl ⟨rfl, rfl⟩ rfl z76 op.on.toNat hi.symm hil (fun gg hgg => ?_)
   refine bW cH 8 aA rfl rfl rfl rfl rfl rfl rfl rfl hgg op.on.toNat 0 ⟨x1, q1⟩ rfl hil rfl (dD ⟨x1, q1⟩) (fun _ => rfl) z63 ?_
   apply CaseB.mk <;> intro g
   · have c0 : ¬ told = [] := fun e => by subst e; simp at g
     refine hY _ [4, 5] (G := [_, _]) lQ rfl rfl rfl rfl ⟨rfl, rfl⟩ ⟨rfl, rfl, trivial⟩ ⟨rfl, rfl, rfl, rfl, trivial⟩ (fun A w hW => (iY _ _ P y _ _ _ (told) (y.pure) w (hW.atG [4, 5] (G := [_, _]) ⟨rfl, rfl, trivial⟩ rfl ⟨rfl, rfl, rfl, rfl, trivial⟩ [12, 2] (Fo := [_, _]) z114 rfl) rfl rfl hnm hn htold htl hpA hn4)) ?_
     rintro v L ⟨rfl, rfl⟩
     have hlp : (onM P.pure (told) (y.pure)).places.length = y.places.length := ((cG _ _ _).1.trans rfl)
     have hls : (onM P.pure (told) (y.pure)).status.length = y.status.length := ((cG _ _ _).2.trans rfl)
     obtain ⟨y9, hy9⟩ : ∃ y9 : StateH, y9 = ⟨(onM P.pure (told) (y.pure)).places, (onM P.pure (told) (y.pure)).status, y.sems, y.onces, y.groups, (y.barriers.set op.on.toNat ⟨x1, q1⟩), y.chans, y.said, y.fault, y.h0, y.h1, y.h2, y.h3, y.h4, y.h5, y.h6, y.h7⟩ := ⟨_, rfl⟩
     have hP : y9.pure = dG P.pure y.pure k op := by
       rw [dG, if_neg (by omega), if_neg (by omega), if_neg (by omega), if_neg (by omega), if_neg (by omega), if_neg (by omega), if_pos hk, iW, hxa, hres]
       show _ = if told = [] then bI (setBarrier y.pure op x1) k 1 else onM P.pure told (setBarrier y.pure op x1)
       rw [if_neg c0, iX P.pure told y.pure (setBarrier y.pure op x1) rfl rfl, hy9]
       simp only [StateH.pure, setBarrier, List.map_set]
     have hv : aM y9 = aM y := by
       rw [hy9]; simp only [aM, hlp, hls, List.length_set]
     refine aU (Shift.pack (G := aJ y9) (dC y9 (by rw [hy9]; exact gK 0 1 6 7 8 2 9 10 rfl rfl rfl rfl rfl rfl rfl rfl) (by rw [hy9]; exact fun g hg => (mO hg).elim (fun h => jV 11 rfl h) (fun h => by obtain rfl := List.mem_singleton.1 h; exact kS 3 rfl rfl)))) ?_
     exact iZ [0] ⟨y9, hv.symm, hP, rfl⟩ z118 rfl ⟨rfl, trivial⟩ (fun _ => rfl)
   have c0 : told = [] := List.eq_nil_of_length_eq_zero (by have g' := g; simp at g'; simp [g'])
   refine cL aI 5 aA rfl rfl rfl rfl rfl ⟨rfl, rfl⟩ rfl rfl k rfl (by omega) (fun gs hgs => ?_)
   refine bW aI 5 aA rfl rfl rfl rfl rfl rfl rfl rfl hgs k 0 1 rfl (by omega) rfl [.int .i64 1] (fun _ => rfl) rfl ?_
   have hlp : (bI (y.pure) k 1).places.length = y.places.length := rfl
   have hls : (bI (y.pure) k 1).status.length = y.status.length := ((List.length_set ..).trans rfl)
   obtain ⟨y9, hy9⟩ : ∃ y9 : StateH, y9 = ⟨(bI (y.pure) k 1).places, (bI (y.pure) k 1).status, y.sems, y.onces, y.groups, (y.barriers.set op.on.toNat ⟨x1, q1⟩), y.chans, y.said, y.fault, y.h0, y.h1, y.h2, y.h3, y.h4, y.h5, y.h6, y.h7⟩ := ⟨_, rfl⟩
   have hP : y9.pure = dG P.pure y.pure k op := by
     rw [dG, if_neg (by omega), if_neg (by omega), if_neg (by omega), if_neg (by omega), if_neg (by omega), if_neg (by omega), if_pos hk, iW, hxa, hres]
     show _ = if told = [] then bI (setBarrier y.pure op x1) k 1 else onM P.pure told (setBarrier y.pure op x1)
     rw [if_pos c0, hy9]
     simp only [StateH.pure, setBarrier, List.map_set, bI]
   have hv : aM y9 = aM y := by
     rw [hy9]; simp only [aM, hlp, hls, List.length_set]
   refine aU (Shift.pack (G := aJ y9) (dC y9 (by rw [hy9]; exact gK 5 0 6 7 8 1 9 10 rfl rfl rfl rfl rfl rfl rfl rfl) (by rw [hy9]; exact fun g hg => (mO hg).elim (fun h => jV 11 rfl h) (fun h => by obtain rfl := List.mem_singleton.1 h; exact kS 2 rfl rfl)))) ?_
   exact iZ [0] ⟨y9, hv.symm, hP, rfl⟩ z118 rfl ⟨rfl, trivial⟩ (fun _ => rfl)
 have h8 : 8 ≤ op.kind := by
   have := r.ok.1
   simp at g1 g2 g3 g4 g5 g6 g7
   omega
 refine hY _ [1, 2, 3, 4, 5, 6, 7, 8, 9] (G := [_, _, _, _, _, _, _, _, _]) cl177 rfl rfl rfl rfl ⟨rfl, rfl⟩ z106 z95 (fun A w hW => (iS0 P y k op r h8 hsd w (hW.atG [1, 2, 3, 4, 5, 6, 7, 8, 9] (G := [_, _, _, _, _, _, _, _, _]) z106 rfl z95 [10] (Fo := [_]) ⟨⟨_, rfl, z49⟩, trivial⟩ rfl))) ?_
 rintro v L ⟨y2, rfl, hy2, rfl⟩
 exact iZ [0] ⟨y2, rfl, hy2, rfl⟩ z118 rfl ⟨rfl, trivial⟩ (fun _ => rfl)
end Go.Proofs.YtchkcjeeknfchaaGreatDoor
