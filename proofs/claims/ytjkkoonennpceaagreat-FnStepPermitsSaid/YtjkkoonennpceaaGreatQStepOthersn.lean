/- FnStepOthers: texts that its proof stands on, part 14. -/
import Derived.ProofKit
import Derived.Deep.Slices
import Derived.Laws.StructEq
import Derived.Test.YtjkkoonennpceaaGreatQStepOthersm
namespace Go.Proofs.YtjkkoonennpceaaGreat
open Go Go.Sx Go.RowKit
structure Near (n : Nat) (s : State) : Prop where
 sm : s.small20
 pl : 1 ≤ s.places.length
 st : 1 ≤ s.status.length
 on : s.onces.length = 3
 sa : s.said.length ≤ 64 + n
 ba : Rounds s 2000
theorem Reach.rounds {p : Prog} {n : Nat} {s : State} (h : Reach p n s) : Rounds s n := by
 induction h with
 | begin =>
   intro x hx
   obtain ⟨n, _, rfl⟩ := List.mem_map.1 hx
   exact Int.le_refl _
 | step _ h ih =>
   intro x hx
   have := Rounds.step h (by omega) ih x hx
   omega
theorem Reach.near {p : Prog} (ok : ProgOk p) {n : Nat} {s : State} (h : Reach p n s) (hn : n ≤ 2000) : Near 0 s := by
 have hr : Rounds s 2000 := fun x hx => by have := h.rounds x hx; omega
 have n1 := ok.n1
 have sm := h.small ok
 cases h with
 | begin => exact ⟨sm, by simp [start]; omega, by simp [start]; omega, rfl, by simp [start], hr⟩
 | step _ h =>
   have ft := h.2.2.2
   exact ⟨sm, by rw [ft.np]; omega, by rw [ft.ns]; omega, ft.lonces, ft.lsaid, hr⟩
set_option maxHeartbeats 32000000 in
set_option maxRecDepth 100000 in
theorem wrong7_c (g : Nat) (bi : Sl) (rb : List UInt8) (p : Nat) (s : StateH) (n : Nat) (w : World) (hg : Blk w g 139 (rdrV bi rb p)) (h : AtP w g [slo bi cByte 1 rb, fR (stateO s)]) (hb : rb.length ≤ 2000) (hp : p < 100000) (nr : Near n s.pure) (hn : n ≤ 10) :
   Calls Tryz.prog 43 #[.pointer (some ⟨g, 0, none⟩), stateV s] w (RetP w g 139 2 fun v cs L => ∃ (y : StateH) (p2 : Nat), v = stateV y ∧ Near (n + 1) y.pure ∧ cs = rdrV bi rb p2 ∧ p2 ≤ p + 20 ∧ L = [fN (stateO y)]) := by
 refine callsP2 Tryz.func43 rfl tabOk w _ rfl _ rfl _ 139 _ 2 rfl hg _ h ⟨rfl, rfl, rfl, rfl, trivial⟩ _ (by decide) ?_
 refine stop_call _ cl96 rfl rfl rfl rfl ⟨rfl, rfl⟩ (fun A w hW => l7Copy_c s w ⟨hW.get 1 rfl (.refl _), trivial⟩ nr.sm) ?_
 rintro v L ⟨y, rfl, hy, rfl⟩
 rw [← hy] at nr
 have hpl : 0 < y.places.length := nr.pl
 have hst : 0 < y.status.length := nr.st
 have hon : y.onces.length = 3 := by have := nr.on; simpa [StateH.pure] using this
 have hsa : y.said.length ≤ 64 + n := nr.sa
 obtain ⟨b0, b1, b2, b3, b4, b5, b6, b7⟩ := nr.sm
 refine stop_callP _ cl41 rfl rfl rfl rfl ⟨rfl, rfl⟩ rfl rfl (fun A w ga hga hW hblk => (pick_c ga bi rb _ _ w hblk ⟨z28, trivial⟩ hb (by omega))) ?_
 rintro v cs L ⟨k, rfl, _, _, rfl, rfl⟩
 refine CaseB.mk (fun g0 => ?_) (fun g0 => ?_)
 · refine AllSl.mk fun l => ?_
   refine stop_callP _ cl71 rfl rfl rfl rfl ⟨rfl, rfl⟩ rfl rfl (fun A w ga hga hW hblk => (num_c ga bi rb _ _ [5, -1, 1] w hblk ⟨z28, z28, trivial⟩ hb (by omega) (by decide))) ?_
   rintro v cs L ⟨x, rfl, _, rfl, rfl⟩
   obtain ⟨y9, hy9⟩ : ∃ y9 : StateH, y9 = ⟨y.places, y.status, y.sems, y.onces, y.groups, y.barriers, y.chans, y.said, x, y.h0, y.h1, y.h2, y.h3, y.h4, y.h5, y.h6, y.h7⟩ := ⟨_, rfl⟩
   have hv : stateV y9 = .agg #[y.h0.val y.places.length, y.h1.val y.status.length, y.h2.val y.sems.length, y.h3.val y.onces.length, y.h4.val y.groups.length, y.h5.val y.barriers.length, y.h6.val y.chans.length, y.h7.val y.said.length, .int .i64 x] := by
     rw [hy9]; simp only [stateV]
   have hN : Near (n + 1) y9.pure := by
     rw [hy9]
     exact ⟨⟨b0, b1, b2, b3, b4, b5, b6, b7⟩, nr.pl, nr.st, nr.on, Nat.le_succ_of_le nr.sa, nr.ba⟩
   refine ret_shift (Shift.pack (G := stateO y9) (fun g hg => inON 1 rfl (by rw [hy9] at hg; exact hg))) ?_
   exact retP [0] ⟨y9, _, hv.symm, hN, rfl, by omega, rfl⟩ rfl rfl z133 rfl ⟨rfl, trivial⟩ (fun _ => rfl)
 refine CaseB.mk (fun g1 => ?_) (fun g1 => ?_)
 · refine draw_shift (Shift.splitO 0 (L := outerO y) (G := stateO y) (G' := innerO y) rfl (stateO_perm y)) ?_
   refine draw_own 0 rfl hpl fun gg hgg _ _ => ?_
   refine draw_start tabOk z95 z95 z95 200 [((3, 0), .v (y.h0.val y.places.length))] [] [] z135 z138 trivial rfl ?_
   refine AllSl.mk fun l => ?_
   refine d_callP _ cl71 rfl rfl rfl rfl ⟨rfl, rfl⟩ rfl rfl rfl (fun A w ga hga hW hblk => (num_c ga bi rb _ _ [0, 1, 9, -1] w hblk ⟨z28, z28, trivial⟩ hb (by omega) (by decide))) ?_
   rintro v cs L ⟨x, rfl, _, rfl, rfl⟩
   refine d_idxP (ti := tiOf tab) tabOk rfl rfl rfl rfl rfl ⟨rfl, rfl⟩ hgg 0 rfl hpl ?_
   refine d_storeW (ti := tiOf tab) encInt 1 tabOk rfl rfl rfl rfl rfl rfl rfl rfl hgg 0 0 x rfl hpl rfl [.int .i64 x] (fun _ => rfl) rfl z93 ?_
   obtain ⟨y9, hy9⟩ : ∃ y9 : StateH, y9 = ⟨(y.places.set 0 x), y.status, y.sems, y.onces, y.groups, y.barriers, y.chans, y.said, y.fault, y.h0, y.h1, y.h2, y.h3, y.h4, y.h5, y.h6, y.h7⟩ := ⟨_, rfl⟩
   have hv : stateV y9 = .agg #[y.h0.val y.places.length, y.h1.val y.status.length, y.h2.val y.sems.length, y.h3.val y.onces.length, y.h4.val y.groups.length, y.h5.val y.barriers.length, y.h6.val y.chans.length, y.h7.val y.said.length, .int .i64 y.fault] := by
     rw [hy9]; simp only [stateV, List.length_set]
   have hN : Near (n + 1) y9.pure := by
     rw [hy9]
     exact ⟨⟨by show (y.places.set 0 x).length ≤ 1048576; rw [List.length_set]; exact b0, b1, b2, b3, b4, b5, b6, b7⟩, by show 1 ≤ (y.places.set 0 x).length; rw [List.length_set]; exact hpl, nr.st, nr.on, Nat.le_succ_of_le nr.sa, nr.ba⟩
   refine ret_shift (Shift.pack (G := stateO y9) (stateN y9 (by rw [hy9]; exact outIn 0 2 3 4 5 6 7 8 rfl rfl rfl rfl rfl rfl rfl rfl) z75)) ?_
   exact retP [0] ⟨y9, _, hv.symm, hN, rfl, by omega, rfl⟩ rfl rfl z133 rfl ⟨rfl, trivial⟩ (fun _ => rfl)
 refine CaseB.mk (fun g2 => ?_) (fun g2 => ?_)
 · refine draw_shift (Shift.splitO 0 (L := outerO y) (G := stateO y) (G' := innerO y) rfl (stateO_perm y)) ?_
   refine draw_own 1 rfl hst fun gg hgg _ _ => ?_
   refine draw_start tabOk z95 z95 z95 200 [((3, 1), .v (y.h1.val y.status.length))] [] [] z135 z138 trivial rfl ?_
   refine AllSl.mk fun l => ?_
   refine d_callP _ cl71 rfl rfl rfl rfl ⟨rfl, rfl⟩ rfl rfl rfl (fun A w ga hga hW hblk => (num_c ga bi rb _ _ [0, 1, 2, 3, 4] w hblk ⟨z28, z28, trivial⟩ hb (by omega) (by decide))) ?_
   rintro v cs L ⟨x, rfl, _, rfl, rfl⟩
   refine d_idxP (ti := tiOf tab) tabOk rfl rfl rfl rfl rfl ⟨rfl, rfl⟩ hgg 0 rfl hst ?_
   refine d_storeW (ti := tiOf tab) encInt 2 tabOk rfl rfl rfl rfl rfl rfl rfl rfl hgg 0 0 x rfl hst rfl [.int .i64 x] (fun _ => rfl) rfl z93 ?_
   obtain ⟨y9, hy9⟩ : ∃ y9 : StateH, y9 = ⟨y.places, (y.status.set 0 x), y.sems, y.onces, y.groups, y.barriers, y.chans, y.said, y.fault, y.h0, y.h1, y.h2, y.h3, y.h4, y.h5, y.h6, y.h7⟩ := ⟨_, rfl⟩
   have hv : stateV y9 = .agg #[y.h0.val y.places.length, y.h1.val y.status.length, y.h2.val y.sems.length, y.h3.val y.onces.length, y.h4.val y.groups.length, y.h5.val y.barriers.length, y.h6.val y.chans.length, y.h7.val y.said.length, .int .i64 y.fault] := by
     rw [hy9]; simp only [stateV, List.length_set]
   have hN : Near (n + 1) y9.pure := by
     rw [hy9]
     exact ⟨⟨b0, by show (y.status.set 0 x).length ≤ 1048576; rw [List.length_set]; exact b1, b2, b3, b4, b5, b6, b7⟩, nr.pl, by show 1 ≤ (y.status.set 0 x).length; rw [List.length_set]; exact hst, nr.on, Nat.le_succ_of_le nr.sa, nr.ba⟩
   refine ret_shift (Shift.pack (G := stateO y9) (stateN y9 (by rw [hy9]; exact outIn 2 0 3 4 5 6 7 8 rfl rfl rfl rfl rfl rfl rfl rfl) z75)) ?_
   exact retP [0] ⟨y9, _, hv.symm, hN, rfl, by omega, rfl⟩ rfl rfl z133 rfl ⟨rfl, trivial⟩ (fun _ => rfl)
 refine CaseB.mk (fun g3 => ?_) (fun g3 => ?_)
 · refine draw_shift (Shift.splitO 0 (L := outerO y) (G := stateO y) (G' := innerO y) rfl (stateO_perm y)) ?_
   refine draw_start tabOk z95 z95 z95 200 [] [] [] trivial trivial trivial rfl ?_
   refine BothW.mk ?_ ?_
   all_goals
     refine AllSl.mk fun l => ?_
     first
     | refine BothW.mk ?_ ?_
     | skip
     all_goals
       refine d_callP _ cl71 rfl rfl rfl rfl ⟨rfl, rfl⟩ rfl rfl rfl (fun A w ga hga hW hblk => (num_c ga bi rb _ _ [100, 3] w hblk ⟨z28, z28, trivial⟩ hb (by omega) (by decide))) ?_
       rintro v cs L ⟨x, rfl, _, rfl, rfl⟩
       first
       | refine BothW.mk ?_ ?_
       | skip
       all_goals
         refine AllSl.mk fun l2 => ?_
         refine d_app (ti := tiOf tab) encInt 9 tabOk (xs := y.said) (ys := [x]) rfl rfl rfl rfl rfl rfl rfl rfl rfl (by decide) ⟨rfl, rfl⟩ rfl z30 z38 z38 z93 (fun z => ?_)
         obtain ⟨y9, hy9⟩ : ∃ y9 : StateH, y9 = ⟨y.places, y.status, y.sems, y.onces, y.groups, y.barriers, y.chans, (y.said ++ [x]), y.fault, y.h0, y.h1, y.h2, y.h3, y.h4, y.h5, y.h6, z⟩ := ⟨_, rfl⟩
         have hv : stateV y9 = .agg #[y.h0.val y.places.length, y.h1.val y.status.length, y.h2.val y.sems.length, y.h3.val y.onces.length, y.h4.val y.groups.length, y.h5.val y.barriers.length, y.h6.val y.chans.length, z.val (y.said ++ [x]).length, .int .i64 y.fault] := by
           rw [hy9]; simp only [stateV]
         have hN : Near (n + 1) y9.pure := by
           rw [hy9]
           exact ⟨⟨b0, b1, b2, b3, b4, b5, b6, by show (y.said ++ [x]).length ≤ 1048576; rw [List.length_append, List.length_singleton]; omega⟩, nr.pl, nr.st, nr.on, by show (y.said ++ [x]).length ≤ _; rw [List.length_append, List.length_singleton]; omega, nr.ba⟩
         refine ret_shift (Shift.pack (G := stateO y9) (stateN y9 (by rw [hy9]; exact outIn 3 4 5 6 7 8 9 0 rfl rfl rfl rfl rfl rfl rfl rfl) (by rw [hy9]; exact fun g hg => inON 10 rfl hg))) ?_
         exact retP [0] ⟨y9, _, hv.symm, hN, rfl, by omega, rfl⟩ rfl rfl z133 rfl ⟨rfl, trivial⟩ (fun _ => rfl)
 refine CaseB.mk (fun g4 => ?_) (fun g4 => ?_)
 · refine draw_shift (Shift.splitO 0 (L := outerO y) (G := stateO y) (G' := innerO y) rfl (stateO_perm y)) ?_
   refine draw_own 3 rfl (show 0 < y.onces.length by omega) fun gg hgg _ _ => ?_
   refine draw_start tabOk z95 z95 z95 200 [((3, 3), .v (y.h3.val y.onces.length))] [] [] z135 z138 trivial rfl ?_
   refine d_callP _ cl41 rfl rfl rfl rfl ⟨rfl, rfl⟩ rfl rfl rfl (fun A w ga hga hW hblk => (pick_c ga bi rb _ _ w hblk ⟨z28, trivial⟩ hb (by omega))) ?_
   rintro v cs L ⟨j, rfl, hj, _, rfl, rfl⟩
   have hj3 : j < y.onces.length := by have := hj (by decide); omega
   refine d_callP _ cl99 rfl rfl rfl rfl ⟨rfl, rfl⟩ rfl rfl rfl (fun A w ga hga hW hblk => (drawOnce_c ga bi rb _ w hblk ⟨z28, trivial⟩ hb (by omega))) ?_
   rintro v cs L ⟨m, q, p2, rfl, hm, rfl, hp2, rfl⟩
   refine d_idxP (ti := tiOf tab) tabOk rfl rfl rfl rfl rfl ⟨rfl, rfl⟩ hgg j rfl hj3 ?_
   refine d_storeW (ti := tiOf tab) encOnceH 4 tabOk rfl rfl rfl rfl rfl rfl rfl rfl hgg j 0 ⟨m, q⟩ rfl hj3 rfl (cOnceH ⟨m, q⟩) (fun _ => rfl) z68 z93 ?_
   obtain ⟨y9, hy9⟩ : ∃ y9 : StateH, y9 = ⟨y.places, y.status, y.sems, (y.onces.set j ⟨m, q⟩), y.groups, y.barriers, y.chans, y.said, y.fault, y.h0, y.h1, y.h2, y.h3, y.h4, y.h5, y.h6, y.h7⟩ := ⟨_, rfl⟩
   have hv : stateV y9 = .agg #[y.h0.val y.places.length, y.h1.val y.status.length, y.h2.val y.sems.length, y.h3.val y.onces.length, y.h4.val y.groups.length, y.h5.val y.barriers.length, y.h6.val y.chans.length, y.h7.val y.said.length, .int .i64 y.fault] := by
     rw [hy9]; simp only [stateV, List.length_set]
   have hN : Near (n + 1) y9.pure := by
     rw [hy9]
     have eon : (y.onces.set j ⟨m, q⟩).map (·.m) = (y.onces.map (·.m)).set j m := List.map_set ..
     exact ⟨⟨b0, b1, b2, ⟨by show ((y.onces.set j ⟨m, q⟩).map (·.m)).length ≤ 1048576; rw [eon, List.length_set, List.length_map]; omega, by show ∀ x ∈ (y.onces.set j ⟨m, q⟩).map (·.m), _; rw [eon]; exact set_mem b3.2 (by have := onceOk_len hm; show m.waits.length ≤ 1048576; omega)⟩, b4, b5, b6, b7⟩, nr.pl, nr.st, by show ((y.onces.set j ⟨m, q⟩).map (·.m)).length = 3; rw [eon, List.length_set]; exact nr.on, Nat.le_succ_of_le nr.sa, nr.ba⟩
   refine ret_shift (Shift.pack (G := stateO y9) (stateN y9 (by rw [hy9]; exact outIn 2 3 4 0 5 6 7 8 rfl rfl rfl rfl rfl rfl rfl rfl) (by rw [hy9]; exact fun g hg => (inner_once hg).elim (fun h => inON 9 rfl h) (fun h => by obtain rfl := List.mem_singleton.1 h; exact inFN 1 rfl rfl)))) ?_
   exact retP [0] ⟨y9, _, hv.symm, hN, rfl, by omega, rfl⟩ rfl rfl z133 rfl ⟨rfl, trivial⟩ (fun _ => rfl)
 refine ret_shift (Shift.packK (G := stateO y) 0 rfl) ?_
 exact retP [0] ⟨y, _, rfl, ⟨⟨b0, b1, b2, b3, b4, b5, b6, b7⟩, nr.pl, nr.st, nr.on, Nat.le_succ_of_le nr.sa, nr.ba⟩, rfl, by omega, rfl⟩ rfl rfl z133 rfl ⟨rfl, trivial⟩ (fun _ => rfl)
theorem Near.up {n : Nat} {s : State} (h : Near n s) (m : Nat) (hm : n ≤ m) : Near m s := ⟨h.sm, h.pl, h.st, h.on, Nat.le_trans h.sa (Nat.add_le_add_left hm 64), h.ba⟩
def PairR (v : Value) (L : List Fct) : Prop := ∃ (q : ProgH) (y : StateH), v = .tuple #[progV q, stateV y] ∧ ProgOk q.pure ∧ Near 2 y.pure ∧ L = [fO (progO q), fN (stateO y)]
def TripR (v : Value) (L : List Fct) : Prop := ∃ (q : ProgH) (y : StateH) (t : Int), v = .tuple #[progV q, stateV y, .int .i64 t] ∧ ProgOk q.pure ∧ Near 2 y.pure ∧ L = [fO (progO q), fN (stateO y)]
set_option maxHeartbeats 16000000 in
set_option maxRecDepth 100000 in
theorem draw7_c (g : Nat) (bi : Sl) (rb : List UInt8) (p : Nat) (w : World) (hg : Blk w g 139 (rdrV bi rb p)) (h : AtP w g [slo bi cByte 1 rb]) (hb : rb.length ≤ 2000) (hp : p < 10000) :
   Calls Tryz.prog 40 #[.pointer (some ⟨g, 0, none⟩)] w (RetP w g 139 2 fun v cs L => ∃ (q : ProgH) (y : StateH) (n p2 : Nat), v = .tuple #[progV q, stateV y] ∧ ProgOk q.pure ∧ Reach q.pure n y.pure ∧ n ≤ 12 ∧ cs = rdrV bi rb p2 ∧ p2 ≤ p + 200 ∧ L = [fO (progO q), fN (stateO y)]) := by
 refine callsP1 Tryz.func40 rfl tabOk w _ rfl _ rfl _ 139 _ 2 rfl hg _ h ⟨rfl, rfl, trivial⟩ (by decide) ?_
 refine stop_callP _ cl74 rfl rfl rfl rfl ⟨rfl, rfl⟩ rfl rfl (fun A w ga hga hW hblk => (draw6_c ga bi rb p w hblk ⟨z28, trivial⟩ hb (by omega))) ?_
 rintro v cs L ⟨q, p1, rfl, ok, rfl, hp1, rfl⟩
 refine draw_start tabOk z95 z95 z95 200 [((3, 0), .v (q.h0.val q.sems.length)), ((3, 1), .v (q.h1.val q.groups.length)), ((3, 2), .v (q.h2.val q.barriers.length)), ((3, 3), .v (q.h3.val q.rooms.length)), ((3, 4), .v (q.h4.val q.threads.length))] [] [] z108 z122 trivial rfl ?_
 refine AllSl.mk fun l => ?_
 refine d_callP _ cl71 rfl rfl rfl rfl ⟨rfl, rfl⟩ rfl rfl rfl (fun A w ga hga hW hblk => (num_c ga bi rb _ _ [3, 2, 5, 8, 1, 0, 12] w hblk ⟨z28, z28, trivial⟩ hb (by omega) (by decide))) ?_
 rintro v cs L ⟨x, rfl, hx, rfl, rfl⟩
 obtain ⟨m, rfl, hm⟩ : ∃ m : Nat, x = m ∧ m ≤ 12 := ⟨x.toNat, by simp at hx; omega, by simp at hx; omega⟩
 refine d_callP _ cl42 rfl rfl rfl rfl ⟨rfl, rfl⟩ rfl rfl rfl (fun A w ga hga hW hblk => (walk7_c ga bi rb _ q m w hblk ⟨hW.getP _ hga rfl 2 rfl (.refl _), hW.getP _ hga rfl 1 rfl (.O_R fun _ h => h), trivial⟩ hb (by omega) ok (by omega))) ?_
 rintro v cs L ⟨y, n, p2, rfl, hr, hn, rfl, hp2, rfl⟩
 exact retP [2, 0] ⟨q, y, n, p2, rfl, ok, hr, by omega, rfl, by omega, rfl⟩ rfl rfl z127 rfl ⟨rfl, rfl, trivial⟩ (fun _ => rfl)
set_option maxHeartbeats 16000000 in
set_option maxRecDepth 100000 in
theorem case7_c (i : Sl) (xs : List UInt8) (w : World) (h : At w [slo i cByte 1 xs]) (hb : xs.length ≤ 4294967296) :
   Calls Tryz.prog 76 #[i.val xs.length] w (Ret w TripR) := by
 have ht : (xs.take 2000).length ≤ 2000 := by simp; omega
 refine calls1 Tryz.func76 rfl tabOk w _ rfl _ rfl _ h ⟨rfl, rfl, trivial⟩ _ (by decide) ?_
 refine stop_callN _ 139 2 cl39 rfl rfl rfl rfl ⟨rfl, rfl⟩ (fun A w hW => (open_c i xs w ⟨z29, trivial⟩ hb)) ?_
 rintro cs L ⟨rfl, rfl⟩
 refine stop_callP _ cl40 rfl rfl rfl rfl ⟨rfl, rfl⟩ rfl rfl (fun A w ga hga hW hblk => (draw7_c ga (openI i xs) (xs.take 2000) _ w hblk ⟨z31, trivial⟩ ht (by omega))) ?_
 rintro v cs L ⟨q, y, n, p1, rfl, ok, hr, hn, rfl, hp1, rfl⟩
 have near := hr.near ok (by omega)
 have hsb : y.status.length ≤ 1048576 := near.sm.2.1
 have hrl : (readyM y.pure).length ≤ 1048576 := Nat.le_trans (readyL_le y.pure) hsb
 refine AllSl.mk fun l => ?_
 refine stop_callP _ cl71 rfl rfl rfl rfl ⟨rfl, rfl⟩ rfl rfl (fun A w ga hga hW hblk => (num_c ga (openI i xs) (xs.take 2000) _ _ [0, 1, 2, 3, 4, -1] w hblk ⟨z31, hW.rdOwnP _ hga rfl 0 rfl, trivial⟩ ht (by omega) (by decide))) ?_
 rintro v cs L ⟨t, rfl, _, rfl, rfl⟩
 refine stop_call _ cl75 rfl rfl rfl rfl ⟨rfl, rfl⟩ (fun A w hW => readyS_c y w ⟨hW.get 2 rfl (fN_fR _), trivial⟩ hsb) ?_
 rintro v L ⟨yr, rfl, rfl⟩
 refine CaseB.mk (fun g1 => ?_) (fun g1 => ?_)
 · have h0 : 0 < (readyM y.pure).length := by have := of_decide_eq_true g1; omega
   refine stop_callP _ cl41 rfl rfl rfl rfl ⟨rfl, rfl⟩ rfl rfl (fun A w ga hga hW hblk => (pick_c ga (openI i xs) (xs.take 2000) _ _ w hblk ⟨z31, trivial⟩ ht (by omega))) ?_
   rintro v cs L ⟨k4, rfl, _, _, rfl, rfl⟩
   refine CaseB.mk (fun g2 => ?_) (fun g2 => ?_)
   · refine stop_callP _ cl41 rfl rfl rfl rfl ⟨rfl, rfl⟩ rfl rfl (fun A w ga hga hW hblk => (pick_c ga (openI i xs) (xs.take 2000) _ _ w hblk ⟨z31, trivial⟩ ht (by omega))) ?_
     rintro v cs L ⟨kk, rfl, hkk, _, rfl, rfl⟩
     have hlt : kk < (readyM y.pure).length := by have := hkk (by omega); omega
     refine stop_idx encInt tabOk rfl rfl rfl rfl rfl ⟨rfl, rfl⟩ z30 kk rfl z38 (fun ad => ?_)
     refine draw_start tabOk z95 z95 z95 200 [((3, 0), .v (q.h0.val q.sems.length)), ((3, 1), .v (q.h1.val q.groups.length)), ((3, 2), .v (q.h2.val q.barriers.length)), ((3, 3), .v (q.h3.val q.rooms.length)), ((3, 4), .v (q.h4.val q.threads.length)), ((4, 0), .v (y.h0.val y.places.length)), ((4, 1), .v (y.h1.val y.status.length)), ((4, 2), .v (y.h2.val y.sems.length)), ((4, 3), .v (y.h3.val y.onces.length)), ((4, 4), .v (y.h4.val y.groups.length)), ((4, 5), .v (y.h5.val y.barriers.length)), ((4, 6), .v (y.h6.val y.chans.length)), ((4, 7), .v (y.h7.val y.said.length)), ((4, 8), .v (.int .i64 y.fault))] [] [] z99 z103 trivial rfl ?_
     refine d_callP _ cl43 rfl rfl rfl rfl ⟨rfl, rfl⟩ rfl rfl rfl (fun A w ga hga hW hblk => (wrong7_c ga (openI i xs) (xs.take 2000) _ y 0 w hblk ⟨z31, hW.getP _ hga rfl 3 rfl (fN_fR _), trivial⟩ ht (by omega) near (by omega))) ?_
     rintro v cs L ⟨y2, p2, rfl, n2, rfl, _, rfl⟩
     exact retw [3, 0] ⟨q, y2, _, rfl, ok, n2.up 2 (by omega), rfl⟩ z127 rfl ⟨rfl, rfl, trivial⟩ (fun _ => rfl)
   · skip
     refine draw_start tabOk z95 z95 z95 200 [((3, 0), .v (q.h0.val q.sems.length)), ((3, 1), .v (q.h1.val q.groups.length)), ((3, 2), .v (q.h2.val q.barriers.length)), ((3, 3), .v (q.h3.val q.rooms.length)), ((3, 4), .v (q.h4.val q.threads.length)), ((4, 0), .v (y.h0.val y.places.length)), ((4, 1), .v (y.h1.val y.status.length)), ((4, 2), .v (y.h2.val y.sems.length)), ((4, 3), .v (y.h3.val y.onces.length)), ((4, 4), .v (y.h4.val y.groups.length)), ((4, 5), .v (y.h5.val y.barriers.length)), ((4, 6), .v (y.h6.val y.chans.length)), ((4, 7), .v (y.h7.val y.said.length)), ((4, 8), .v (.int .i64 y.fault))] [] [] z99 z103 trivial rfl ?_
     refine d_callP _ cl43 rfl rfl rfl rfl ⟨rfl, rfl⟩ rfl rfl rfl (fun A w ga hga hW hblk => (wrong7_c ga (openI i xs) (xs.take 2000) _ y 0 w hblk ⟨z31, hW.getP _ hga rfl 3 rfl (fN_fR _), trivial⟩ ht (by omega) near (by omega))) ?_
     rintro v cs L ⟨y2, p2, rfl, n2, rfl, _, rfl⟩
     exact retw [3, 0] ⟨q, y2, _, rfl, ok, n2.up 2 (by omega), rfl⟩ z127 rfl ⟨rfl, rfl, trivial⟩ (fun _ => rfl)
 · skip
   refine draw_start tabOk z95 z95 z95 200 [((3, 0), .v (q.h0.val q.sems.length)), ((3, 1), .v (q.h1.val q.groups.length)), ((3, 2), .v (q.h2.val q.barriers.length)), ((3, 3), .v (q.h3.val q.rooms.length)), ((3, 4), .v (q.h4.val q.threads.length)), ((4, 0), .v (y.h0.val y.places.length)), ((4, 1), .v (y.h1.val y.status.length)), ((4, 2), .v (y.h2.val y.sems.length)), ((4, 3), .v (y.h3.val y.onces.length)), ((4, 4), .v (y.h4.val y.groups.length)), ((4, 5), .v (y.h5.val y.barriers.length)), ((4, 6), .v (y.h6.val y.chans.length)), ((4, 7), .v (y.h7.val y.said.length)), ((4, 8), .v (.int .i64 y.fault))] [] [] z99 z103 trivial rfl ?_
   refine d_callP _ cl43 rfl rfl rfl rfl ⟨rfl, rfl⟩ rfl rfl rfl (fun A w ga hga hW hblk => (wrong7_c ga (openI i xs) (xs.take 2000) _ y 0 w hblk ⟨z31, hW.getP _ hga rfl 3 rfl (fN_fR _), trivial⟩ ht (by omega) near (by omega))) ?_
   rintro v cs L ⟨y2, p2, rfl, n2, rfl, _, rfl⟩
   exact retw [3, 0] ⟨q, y2, _, rfl, ok, n2.up 2 (by omega), rfl⟩ z127 rfl ⟨rfl, rfl, trivial⟩ (fun _ => rfl)
set_option maxHeartbeats 16000000 in
set_option maxRecDepth 100000 in
theorem stepD_c (i : Sl) (xs : List UInt8) (w : World) (h : At w [slo i cByte 1 xs]) (hb : xs.length ≤ 4294967296) :
   Calls Tryz.prog 36 #[i.val xs.length] w (Ret w TripR) := by
 refine calls1 Tryz.func36 rfl tabOk w _ rfl _ rfl _ h ⟨rfl, rfl, trivial⟩ _ (by decide) ?_
 refine stop_call _ cl76 rfl rfl rfl rfl ⟨rfl, rfl⟩ (fun A w hW => (case7_c i xs w ⟨z29, trivial⟩ hb)) ?_
 rintro v L ⟨q, y, t, rfl, ok, nr, rfl⟩
 exact retw [0, 1] ⟨q, y, t, rfl, ok, nr, rfl⟩ z127 rfl ⟨rfl, rfl, trivial⟩ (fun _ => rfl)
set_option maxHeartbeats 16000000 in
set_option maxRecDepth 100000 in
theorem readyD_c (i : Sl) (xs : List UInt8) (w : World) (h : At w [slo i cByte 1 xs]) (hb : xs.length ≤ 4294967296) :
   Calls Tryz.prog 29 #[i.val xs.length] w (Ret w PairR) := by
 refine calls1 Tryz.func29 rfl tabOk w _ rfl _ rfl _ h ⟨rfl, rfl, trivial⟩ _ (by decide) ?_
 refine stop_call _ cl76 rfl rfl rfl rfl ⟨rfl, rfl⟩ (fun A w hW => (case7_c i xs w ⟨z29, trivial⟩ hb)) ?_
 rintro v L ⟨q, y, t, rfl, ok, nr, rfl⟩
 refine draw_start tabOk z95 z95 z95 200 [((2, 0), .v (q.h0.val q.sems.length)), ((2, 1), .v (q.h1.val q.groups.length)), ((2, 2), .v (q.h2.val q.barriers.length)), ((2, 3), .v (q.h3.val q.rooms.length)), ((2, 4), .v (q.h4.val q.threads.length)), ((3, 0), .v (y.h0.val y.places.length)), ((3, 1), .v (y.h1.val y.status.length)), ((3, 2), .v (y.h2.val y.sems.length)), ((3, 3), .v (y.h3.val y.onces.length)), ((3, 4), .v (y.h4.val y.groups.length)), ((3, 5), .v (y.h5.val y.barriers.length)), ((3, 6), .v (y.h6.val y.chans.length)), ((3, 7), .v (y.h7.val y.said.length)), ((3, 8), .v (.int .i64 y.fault))] [] [] z99 z103 trivial rfl ?_
 exact retw [0, 1] ⟨q, y, rfl, ok, nr, rfl⟩ z127 rfl ⟨rfl, rfl, trivial⟩ (fun _ => rfl)
theorem readyM_iff {s : State} {t : Int} : t ∈ readyM s ↔ s.fault = 0 ∧ ∃ (k : Nat) (st : Int), t = k ∧ s.status[k]? = some st ∧ (st = 0 ∨ st = 2) := by
 refine ⟨readyM_mem, fun ⟨hf, k, st, e, h1, h2⟩ => ?_⟩
 rw [readyM, if_pos hf]
 exact evL_mem2.2 ⟨k, st, h1, by rw [evReady, if_pos h2, e]; simp⟩
theorem step_ready {p : Prog} {s : State} (ft : Fits p s) (hl : s.said.length < 64) (hr : Rounds s 2000) (t : Int) : StepOk p s t ↔ t ∈ readyM s := by
 refine ⟨fun h => h.2.1, fun h => ?_⟩
 have nw : ¬ Worn p s t := hr.worn (by decide) (by decide)
 refine stepOk_iff.2 ⟨ft, h, ?_, nw⟩
 obtain ⟨k, ops, a, st, op, rfl, r⟩ := rdy ft h
 rcases (r.stp nw).said with ⟨e, _⟩ | ⟨v, e, _⟩
 · rw [e]; omega
 · rw [e, List.length_append, List.length_singleton]; omega
theorem ready_same {p : Prog} {s : State} {a b : List Int} (a1 : Fits p s → a = readyM s) (a2 : ¬ Fits p s → a = []) (b1 : Fits p s → b = readyM s) (b2 : ¬ Fits p s → b = []) : a = b := by
 by_cases ft : Fits p s
 · rw [a1 ft, b1 ft]
 · rw [a2 ft, b2 ft]
theorem ready_len {p : Prog} {s : State} {rs : List Int} (r1 : Fits p s → rs = readyM s) (r2 : ¬ Fits p s → rs = []) : rs.length ≤ s.status.length := by
 by_cases ft : Fits p s
 · rw [r1 ft]; exact readyL_le s
 · rw [r2 ft]; exact Nat.zero_le _
def rdyBefore (s : State) (k : Nat) : List Int := if s.fault = 0 then evL evReady 0 (s.status.take k) else []
theorem rdyBefore_all (s : State) {k : Nat} (h : s.status.length ≤ k) : rdyBefore s k = readyM s := by rw [rdyBefore, readyM, List.take_of_length_le h]
theorem rdyBefore_yes {s : State} {k : Nat} (h : (k : Int) ∈ readyM s) : rdyBefore s (k + 1) = rdyBefore s k ++ [(k : Int)] := by
 obtain ⟨hf, j, st, e, h1, h2⟩ := readyM_mem h
 obtain rfl : k = j := by omega
 have hl := (List.getElem?_eq_some_iff.1 h1)
 obtain ⟨hk, rfl⟩ := hl
 rw [rdyBefore, rdyBefore, if_pos hf, if_pos hf, evL_succ evReady s.status hk, evReady, if_pos h2]
theorem rdyBefore_no {s : State} {k : Nat} (hk : k < s.status.length) (h : (k : Int) ∉ readyM s) : rdyBefore s (k + 1) = rdyBefore s k := by
 rw [rdyBefore, rdyBefore]
 by_cases hf : s.fault = 0
 · have h2 : ¬ (s.status[k] = 0 ∨ s.status[k] = 2) := fun h2 => h (readyM_iff.2 ⟨hf, k, _, rfl, List.getElem?_eq_getElem hk, h2⟩)
   rw [if_pos hf, if_pos hf, evL_succ evReady s.status hk, evReady, if_neg h2, List.append_nil]
 · rw [if_neg hf, if_neg hf]
theorem rdyBefore_pre (s : State) : ∀ k, k ≤ s.status.length → ∃ r, readyM s = rdyBefore s k ++ r := fun k hk => by
 obtain ⟨d, hd⟩ : ∃ d, k + d = s.status.length := ⟨s.status.length - k, by omega⟩
 induction d generalizing k with
 | zero => exact ⟨[], by rw [rdyBefore_all s (by omega), List.append_nil]⟩
 | succ d ih =>
   obtain ⟨r, hr⟩ := ih (k + 1) (by omega) (by omega)
   by_cases h : (k : Int) ∈ readyM s
   · rw [rdyBefore_yes h, List.append_assoc] at hr
     exact ⟨_, hr⟩
   · rw [rdyBefore_no (by omega) h] at hr
     exact ⟨r, hr⟩
theorem rdyBefore_at {s : State} {k : Nat} (hk : k < s.status.length) (h : (k : Int) ∈ readyM s) : ∃ hn : (rdyBefore s k).length < (readyM s).length, (readyM s)[(rdyBefore s k).length] = (k : Int) := by
 obtain ⟨r, hr⟩ := rdyBefore_pre s (k + 1) hk
 rw [rdyBefore_yes h, List.append_assoc] at hr
 exact ⟨by rw [hr]; simp, by simp [hr]⟩
theorem small_of_20 {m : Chan} (h : m.small20) : m.small := ⟨Nat.le_trans h.1 (by decide), Nat.le_trans h.2.1 (by decide), Nat.le_trans h.2.2 (by decide)⟩
set_option maxHeartbeats 4000000 in
set_option maxRecDepth 100000 in
theorem eqfSem_c (h h2 : Sl) (xs ys : List SemH) (w : World) (hh : At w [fR (semsO h xs), fR (semsO h2 ys)]) (hl : xs.length ≤ 1048576) (hb : ∀ x ∈ xs, Sem.small20 x.m) (hb2 : ∀ x ∈ ys, Sem.small20 x.m) :
   Calls Tryz.prog 46 #[h.val xs.length, h2.val ys.length, .func (.func 38) #[] #[]] w (Ret w fun v L => v = .bool (decide (xs.map (·.m) = ys.map (·.m))) ∧ L = []) := by
 refine calls3 Tryz.func46 rfl tabOk w _ rfl _ rfl _ hh ⟨rfl, rfl, rfl, rfl, trivial⟩ _ _ _ (by decide) ?_
 apply CaseB.mk <;> intro g
 · have hne : xs.map (·.m) ≠ ys.map (·.m) := fun e => by
     have := congrArg List.length e
     simp at this g
     omega
   refine ret0 ⟨?_, rfl⟩ (fun _ => rfl)
   simp [hne]
 · have hll : xs.length = ys.length := by simp at g; omega
   refine LoopW.mk ⟨{ k : Nat // k ≤ xs.length ∧ (xs.map (·.m)).take k = (ys.map (·.m)).take k },
     fun p => .mk [(1, .v (h2.val ys.length)), (2, .v (.func (.func 38) #[] #[])), (15, .v (h.val xs.length)), (16, .v (.int .i64 (xs.length : Int))), (17, .v (.int .i64 p.1))] 0 0 [] [] [fR (semsO h xs), fR (semsO h2 ys)],
     fun p => xs.length - p.1, ⟨0, Nat.zero_le _, rfl⟩, ?_, ?_⟩
   · exact weak_mk [0, 1] zw2 zw0 zw2 zw5 zw4 rfl rfl
   · rintro ⟨k, hk, he⟩
     refine CaseB.mk (fun g2 => ?_) (fun g2 => ?_)
     · have hlt : k < xs.length := by simpa using g2
       have hlt2 : k < ys.length := by omega
       obtain ⟨q1, q2⟩ := take_eq_succ he (by simpa using hlt) (by simpa using hlt2)
       simp only [List.getElem_map] at q1 q2
       refine stop_idx encSemH tabOk rfl rfl rfl rfl rfl ⟨rfl, rfl⟩ (rdVia 0 rfl (.ofR nest_h)) k rfl z38 (fun ad => ?_)
       refine stop_idx encSemH tabOk rfl rfl rfl rfl rfl ⟨rfl, rfl⟩ (rdVia 1 rfl (.ofR nest_h)) k rfl z38 (fun ad2 => ?_)
       refine stop_callV _ cl38 rfl rfl rfl rfl ⟨rfl, rfl⟩ (fun A w hW => (semSame_c _ _ _ _ w ⟨hW.get 0 rfl (.ofR (semsO_0 h xs k hlt)), hW.get 1 rfl (.ofR (semsO_0 h2 ys k hlt2)), trivial⟩ (Nat.le_trans (hb _ (List.getElem_mem hlt)) (by decide)) (Nat.le_trans (hb2 _ (List.getElem_mem hlt2)) (by decide)))) ?_
       rintro v L ⟨rfl, rfl⟩
       refine CaseB.mk (fun g3 => ?_) (fun g3 => ?_)
       · have hne := q2 z88
         refine ret0 ⟨?_, rfl⟩ (fun _ => rfl)
         simp [hne]
       · have heq := q1 z88
         have hw := e_succ k _ hlt (by omega)
         refine ⟨⟨k + 1, by omega, heq⟩, ?_, by simp; omega⟩
         exact weak_mk [0, 1] zw1 zw0 zw1 zw5 zw3 rfl rfl
     · have hge : xs.length ≤ k := by simpa using g2
       have heq : xs.map (·.m) = ys.map (·.m) := by rw [List.take_of_length_le z85, List.take_of_length_le z94] at he; exact he
       refine ret0 ⟨?_, rfl⟩ (fun _ => rfl)
       simp [heq]
set_option maxHeartbeats 4000000 in
set_option maxRecDepth 100000 in
theorem eqfOnce_c (h h2 : Sl) (xs ys : List OnceH) (w : World) (hh : At w [fR (oncesO h xs), fR (oncesO h2 ys)]) (hl : xs.length ≤ 1048576) (hb : ∀ x ∈ xs, Once.small20 x.m) (hb2 : ∀ x ∈ ys, Once.small20 x.m) :
   Calls Tryz.prog 47 #[h.val xs.length, h2.val ys.length, .func (.func 48) #[] #[]] w (Ret w fun v L => v = .bool (decide (xs.map (·.m) = ys.map (·.m))) ∧ L = []) := by
 refine calls3 Tryz.func47 rfl tabOk w _ rfl _ rfl _ hh ⟨rfl, rfl, rfl, rfl, trivial⟩ _ _ _ (by decide) ?_
 apply CaseB.mk <;> intro g
 · have hne : xs.map (·.m) ≠ ys.map (·.m) := fun e => by
     have := congrArg List.length e
     simp at this g
     omega
   refine ret0 ⟨?_, rfl⟩ (fun _ => rfl)
   simp [hne]
 · have hll : xs.length = ys.length := by simp at g; omega
   refine LoopW.mk ⟨{ k : Nat // k ≤ xs.length ∧ (xs.map (·.m)).take k = (ys.map (·.m)).take k },
     fun p => .mk [(1, .v (h2.val ys.length)), (2, .v (.func (.func 48) #[] #[])), (15, .v (h.val xs.length)), (16, .v (.int .i64 (xs.length : Int))), (17, .v (.int .i64 p.1))] 0 0 [] [] [fR (oncesO h xs), fR (oncesO h2 ys)],
     fun p => xs.length - p.1, ⟨0, Nat.zero_le _, rfl⟩, ?_, ?_⟩
   · exact weak_mk [0, 1] zw2 zw0 zw2 zw5 zw4 rfl rfl
   · rintro ⟨k, hk, he⟩
     refine CaseB.mk (fun g2 => ?_) (fun g2 => ?_)
     · have hlt : k < xs.length := by simpa using g2
       have hlt2 : k < ys.length := by omega
       obtain ⟨q1, q2⟩ := take_eq_succ he (by simpa using hlt) (by simpa using hlt2)
       simp only [List.getElem_map] at q1 q2
       refine stop_idx encOnceH tabOk rfl rfl rfl rfl rfl ⟨rfl, rfl⟩ (rdVia 0 rfl (.ofR nest_h)) k rfl z38 (fun ad => ?_)
       refine stop_idx encOnceH tabOk rfl rfl rfl rfl rfl ⟨rfl, rfl⟩ (rdVia 1 rfl (.ofR nest_h)) k rfl z38 (fun ad2 => ?_)
       refine stop_callV _ cl48 rfl rfl rfl rfl ⟨rfl, rfl⟩ (fun A w hW => (onceSame_c _ _ _ _ w ⟨hW.get 0 rfl (.ofR (oncesO_0 h xs k hlt)), hW.get 1 rfl (.ofR (oncesO_0 h2 ys k hlt2)), trivial⟩ (Nat.le_trans (hb _ (List.getElem_mem hlt)) (by decide)) (Nat.le_trans (hb2 _ (List.getElem_mem hlt2)) (by decide)))) ?_
       rintro v L ⟨rfl, rfl⟩
       refine CaseB.mk (fun g3 => ?_) (fun g3 => ?_)
       · have hne := q2 z88
         refine ret0 ⟨?_, rfl⟩ (fun _ => rfl)
         simp [hne]
       · have heq := q1 z88
         have hw := e_succ k _ hlt (by omega)
         refine ⟨⟨k + 1, by omega, heq⟩, ?_, by simp; omega⟩
         exact weak_mk [0, 1] zw1 zw0 zw1 zw5 zw3 rfl rfl
     · have hge : xs.length ≤ k := by simpa using g2
       have heq : xs.map (·.m) = ys.map (·.m) := by rw [List.take_of_length_le z85, List.take_of_length_le z94] at he; exact he
       refine ret0 ⟨?_, rfl⟩ (fun _ => rfl)
       simp [heq]
set_option maxHeartbeats 4000000 in
set_option maxRecDepth 100000 in
theorem eqfGroup_c (h h2 : Sl) (xs ys : List GroupH) (w : World) (hh : At w [fR (groupsO h xs), fR (groupsO h2 ys)]) (hl : xs.length ≤ 1048576) (hb : ∀ x ∈ xs, Group.small20 x.m) (hb2 : ∀ x ∈ ys, Group.small20 x.m) :
   Calls Tryz.prog 49 #[h.val xs.length, h2.val ys.length, .func (.func 50) #[] #[]] w (Ret w fun v L => v = .bool (decide (xs.map (·.m) = ys.map (·.m))) ∧ L = []) := by
 refine calls3 Tryz.func49 rfl tabOk w _ rfl _ rfl _ hh ⟨rfl, rfl, rfl, rfl, trivial⟩ _ _ _ (by decide) ?_
 apply CaseB.mk <;> intro g
 · have hne : xs.map (·.m) ≠ ys.map (·.m) := fun e => by
     have := congrArg List.length e
     simp at this g
     omega
   refine ret0 ⟨?_, rfl⟩ (fun _ => rfl)
   simp [hne]
 · have hll : xs.length = ys.length := by simp at g; omega
   refine LoopW.mk ⟨{ k : Nat // k ≤ xs.length ∧ (xs.map (·.m)).take k = (ys.map (·.m)).take k },
     fun p => .mk [(1, .v (h2.val ys.length)), (2, .v (.func (.func 50) #[] #[])), (15, .v (h.val xs.length)), (16, .v (.int .i64 (xs.length : Int))), (17, .v (.int .i64 p.1))] 0 0 [] [] [fR (groupsO h xs), fR (groupsO h2 ys)],
     fun p => xs.length - p.1, ⟨0, Nat.zero_le _, rfl⟩, ?_, ?_⟩
   · exact weak_mk [0, 1] zw2 zw0 zw2 zw5 zw4 rfl rfl
   · rintro ⟨k, hk, he⟩
     refine CaseB.mk (fun g2 => ?_) (fun g2 => ?_)
     · have hlt : k < xs.length := by simpa using g2
       have hlt2 : k < ys.length := by omega
       obtain ⟨q1, q2⟩ := take_eq_succ he (by simpa using hlt) (by simpa using hlt2)
       simp only [List.getElem_map] at q1 q2
       refine stop_idx encGroupH tabOk rfl rfl rfl rfl rfl ⟨rfl, rfl⟩ (rdVia 0 rfl (.ofR nest_h)) k rfl z38 (fun ad => ?_)
       refine stop_idx encGroupH tabOk rfl rfl rfl rfl rfl ⟨rfl, rfl⟩ (rdVia 1 rfl (.ofR nest_h)) k rfl z38 (fun ad2 => ?_)
       refine stop_callV _ cl50 rfl rfl rfl rfl ⟨rfl, rfl⟩ (fun A w hW => (groupSame_c _ _ _ _ w ⟨hW.get 0 rfl (.ofR (groupsO_0 h xs k hlt)), hW.get 1 rfl (.ofR (groupsO_0 h2 ys k hlt2)), trivial⟩ (Nat.le_trans (hb _ (List.getElem_mem hlt)) (by decide)) (Nat.le_trans (hb2 _ (List.getElem_mem hlt2)) (by decide)))) ?_
       rintro v L ⟨rfl, rfl⟩
       refine CaseB.mk (fun g3 => ?_) (fun g3 => ?_)
       · have hne := q2 z88
         refine ret0 ⟨?_, rfl⟩ (fun _ => rfl)
         simp [hne]
       · have heq := q1 z88
         have hw := e_succ k _ hlt (by omega)
         refine ⟨⟨k + 1, by omega, heq⟩, ?_, by simp; omega⟩
         exact weak_mk [0, 1] zw1 zw0 zw1 zw5 zw3 rfl rfl
     · have hge : xs.length ≤ k := by simpa using g2
       have heq : xs.map (·.m) = ys.map (·.m) := by rw [List.take_of_length_le z85, List.take_of_length_le z94] at he; exact he
       refine ret0 ⟨?_, rfl⟩ (fun _ => rfl)
       simp [heq]
set_option maxHeartbeats 4000000 in
set_option maxRecDepth 100000 in
theorem eqfBarrier_c (h h2 : Sl) (xs ys : List BarrierH) (w : World) (hh : At w [fR (barriersO h xs), fR (barriersO h2 ys)]) (hl : xs.length ≤ 1048576) (hb : ∀ x ∈ xs, Barrier.small20 x.m) (hb2 : ∀ x ∈ ys, Barrier.small20 x.m) :
   Calls Tryz.prog 51 #[h.val xs.length, h2.val ys.length, .func (.func 44) #[] #[]] w (Ret w fun v L => v = .bool (decide (xs.map (·.m) = ys.map (·.m))) ∧ L = []) := by
 refine calls3 Tryz.func51 rfl tabOk w _ rfl _ rfl _ hh ⟨rfl, rfl, rfl, rfl, trivial⟩ _ _ _ (by decide) ?_
 apply CaseB.mk <;> intro g
 · have hne : xs.map (·.m) ≠ ys.map (·.m) := fun e => by
     have := congrArg List.length e
     simp at this g
     omega
   refine ret0 ⟨?_, rfl⟩ (fun _ => rfl)
   simp [hne]
 · have hll : xs.length = ys.length := by simp at g; omega
   refine LoopW.mk ⟨{ k : Nat // k ≤ xs.length ∧ (xs.map (·.m)).take k = (ys.map (·.m)).take k },
     fun p => .mk [(1, .v (h2.val ys.length)), (2, .v (.func (.func 44) #[] #[])), (15, .v (h.val xs.length)), (16, .v (.int .i64 (xs.length : Int))), (17, .v (.int .i64 p.1))] 0 0 [] [] [fR (barriersO h xs), fR (barriersO h2 ys)],
     fun p => xs.length - p.1, ⟨0, Nat.zero_le _, rfl⟩, ?_, ?_⟩
   · exact weak_mk [0, 1] zw2 zw0 zw2 zw5 zw4 rfl rfl
   · rintro ⟨k, hk, he⟩
     refine CaseB.mk (fun g2 => ?_) (fun g2 => ?_)
     · have hlt : k < xs.length := by simpa using g2
       have hlt2 : k < ys.length := by omega
       obtain ⟨q1, q2⟩ := take_eq_succ he (by simpa using hlt) (by simpa using hlt2)
       simp only [List.getElem_map] at q1 q2
       refine stop_idx encBarrierH tabOk rfl rfl rfl rfl rfl ⟨rfl, rfl⟩ (rdVia 0 rfl (.ofR nest_h)) k rfl z38 (fun ad => ?_)
       refine stop_idx encBarrierH tabOk rfl rfl rfl rfl rfl ⟨rfl, rfl⟩ (rdVia 1 rfl (.ofR nest_h)) k rfl z38 (fun ad2 => ?_)
       refine stop_callV _ cl44 rfl rfl rfl rfl ⟨rfl, rfl⟩ (fun A w hW => (barrierSame_c _ _ _ _ w ⟨hW.get 0 rfl (.ofR (barriersO_0 h xs k hlt)), hW.get 1 rfl (.ofR (barriersO_0 h2 ys k hlt2)), trivial⟩ (Nat.le_trans (hb _ (List.getElem_mem hlt)) (by decide)) (Nat.le_trans (hb2 _ (List.getElem_mem hlt2)) (by decide)))) ?_
       rintro v L ⟨rfl, rfl⟩
       refine CaseB.mk (fun g3 => ?_) (fun g3 => ?_)
       · have hne := q2 z88
         refine ret0 ⟨?_, rfl⟩ (fun _ => rfl)
         simp [hne]
       · have heq := q1 z88
         have hw := e_succ k _ hlt (by omega)
         refine ⟨⟨k + 1, by omega, heq⟩, ?_, by simp; omega⟩
         exact weak_mk [0, 1] zw1 zw0 zw1 zw5 zw3 rfl rfl
     · have hge : xs.length ≤ k := by simpa using g2
       have heq : xs.map (·.m) = ys.map (·.m) := by rw [List.take_of_length_le z85, List.take_of_length_le z94] at he; exact he
       refine ret0 ⟨?_, rfl⟩ (fun _ => rfl)
       simp [heq]
set_option maxHeartbeats 4000000 in
set_option maxRecDepth 100000 in
theorem eqfChan_c (h h2 : Sl) (xs ys : List ChanH) (w : World) (hh : At w [fR (chansO h xs), fR (chansO h2 ys)]) (hl : xs.length ≤ 1048576) (hb : ∀ x ∈ xs, Chan.small20 x.m) (hb2 : ∀ x ∈ ys, Chan.small20 x.m) :
   Calls Tryz.prog 52 #[h.val xs.length, h2.val ys.length, .func (.func 53) #[] #[]] w (Ret w fun v L => v = .bool (decide (xs.map (·.m) = ys.map (·.m))) ∧ L = []) := by
 refine calls3 Tryz.func52 rfl tabOk w _ rfl _ rfl _ hh ⟨rfl, rfl, rfl, rfl, trivial⟩ _ _ _ (by decide) ?_
 apply CaseB.mk <;> intro g
 · have hne : xs.map (·.m) ≠ ys.map (·.m) := fun e => by
     have := congrArg List.length e
     simp at this g
     omega
   refine ret0 ⟨?_, rfl⟩ (fun _ => rfl)
   simp [hne]
 · have hll : xs.length = ys.length := by simp at g; omega
   refine LoopW.mk ⟨{ k : Nat // k ≤ xs.length ∧ (xs.map (·.m)).take k = (ys.map (·.m)).take k },
     fun p => .mk [(1, .v (h2.val ys.length)), (2, .v (.func (.func 53) #[] #[])), (15, .v (h.val xs.length)), (16, .v (.int .i64 (xs.length : Int))), (17, .v (.int .i64 p.1))] 0 0 [] [] [fR (chansO h xs), fR (chansO h2 ys)],
     fun p => xs.length - p.1, ⟨0, Nat.zero_le _, rfl⟩, ?_, ?_⟩
   · exact weak_mk [0, 1] zw2 zw0 zw2 zw5 zw4 rfl rfl
   · rintro ⟨k, hk, he⟩
     refine CaseB.mk (fun g2 => ?_) (fun g2 => ?_)
     · have hlt : k < xs.length := by simpa using g2
       have hlt2 : k < ys.length := by omega
       obtain ⟨q1, q2⟩ := take_eq_succ he (by simpa using hlt) (by simpa using hlt2)
       simp only [List.getElem_map] at q1 q2
       refine stop_idx encChanH tabOk rfl rfl rfl rfl rfl ⟨rfl, rfl⟩ (rdVia 0 rfl (.ofR nest_h)) k rfl z38 (fun ad => ?_)
       refine stop_idx encChanH tabOk rfl rfl rfl rfl rfl ⟨rfl, rfl⟩ (rdVia 1 rfl (.ofR nest_h)) k rfl z38 (fun ad2 => ?_)
       refine stop_callV _ cl53 rfl rfl rfl rfl ⟨rfl, rfl⟩ (fun A w hW => (same_c _ _ _ _ _ _ _ _ w ⟨hW.get 0 rfl (.ofR (chansO_0 h xs k hlt)), hW.get 0 rfl (.ofR (chansO_1 h xs k hlt)), hW.get 0 rfl (.ofR (chansO_2 h xs k hlt)), hW.get 1 rfl (.ofR (chansO_0 h2 ys k hlt2)), hW.get 1 rfl (.ofR (chansO_1 h2 ys k hlt2)), hW.get 1 rfl (.ofR (chansO_2 h2 ys k hlt2)), trivial⟩ (small_of_20 (hb _ (List.getElem_mem hlt))) (small_of_20 (hb2 _ (List.getElem_mem hlt2))))) ?_
       rintro v L ⟨rfl, rfl⟩
       refine CaseB.mk (fun g3 => ?_) (fun g3 => ?_)
       · have hne := q2 z88
         refine ret0 ⟨?_, rfl⟩ (fun _ => rfl)
         simp [hne]
       · have heq := q1 z88
         have hw := e_succ k _ hlt (by omega)
         refine ⟨⟨k + 1, by omega, heq⟩, ?_, by simp; omega⟩
         exact weak_mk [0, 1] zw1 zw0 zw1 zw5 zw3 rfl rfl
     · have hge : xs.length ≤ k := by simpa using g2
       have heq : xs.map (·.m) = ys.map (·.m) := by rw [List.take_of_length_le z85, List.take_of_length_le z94] at he; exact he
       refine ret0 ⟨?_, rfl⟩ (fun _ => rfl)
       simp [heq]
theorem state_eq (s t : StateH) : s.pure = t.pure ↔ s.places = t.places ∧ s.status = t.status ∧ s.sems.map (·.m) = t.sems.map (·.m) ∧ s.onces.map (·.m) = t.onces.map (·.m) ∧ s.groups.map (·.m) = t.groups.map (·.m) ∧ s.barriers.map (·.m) = t.barriers.map (·.m) ∧ s.chans.map (·.m) = t.chans.map (·.m) ∧ s.said = t.said ∧ s.fault = t.fault := by
 simp only [StateH.pure, State.mk.injEq]
set_option maxHeartbeats 16000000 in
set_option maxRecDepth 100000 in
theorem stateSame_c (s t : StateH) (w : World) (h : At w [fR (stateO s), fR (stateO t)]) (hb : s.pure.small20) (hb2 : t.pure.small20) :
   Calls Tryz.prog 15 #[stateV s, stateV t] w (Ret w fun v L => v = .bool (decide (s.pure = t.pure)) ∧ L = []) := by
 have hx := state_eq s t
 obtain ⟨b0, b1, b2, b3, b4, b5, b6, b7⟩ := hb
 obtain ⟨c0, c1, c2, c3, c4, c5, c6, c7⟩ := hb2
 refine calls2 Tryz.func15 rfl tabOk w _ rfl _ rfl _ h ⟨rfl, rfl, rfl, rfl, trivial⟩ _ _ (by decide) ?_
 refine stop_call _ cl45 rfl rfl rfl rfl ⟨rfl, rfl⟩ (fun A w hW => eqInts_c s.h0 t.h0 s.places t.places w ⟨hW.get 0 rfl (.ofR (stateO_places s)), hW.get 1 rfl (.ofR (stateO_places t)), trivial⟩ (Nat.le_trans b0 (by decide)) (Nat.le_trans c0 (by decide))) ?_
 rintro v L ⟨rfl, rfl⟩
 refine CaseB.mk (fun h0 => ?_) (fun h0 => ?_)
 rotate_left
 · have g : ¬ s.pure = t.pure := fun e => by rw [hx] at e; simp [e] at h0
   exact ret0 ⟨by simp [g], rfl⟩ (fun _ => rfl)
 refine stop_call _ cl45 rfl rfl rfl rfl ⟨rfl, rfl⟩ (fun A w hW => eqInts_c s.h1 t.h1 s.status t.status w ⟨hW.get 0 rfl (.ofR (stateO_status s)), hW.get 1 rfl (.ofR (stateO_status t)), trivial⟩ (Nat.le_trans b1 (by decide)) (Nat.le_trans c1 (by decide))) ?_
 rintro v L ⟨rfl, rfl⟩
 refine CaseB.mk (fun h1 => ?_) (fun h1 => ?_)
 rotate_left
 · have g : ¬ s.pure = t.pure := fun e => by rw [hx] at e; simp [e] at h1
   exact ret0 ⟨by simp [g], rfl⟩ (fun _ => rfl)
 refine stop_call _ cl46 rfl rfl rfl rfl ⟨rfl, rfl⟩ (fun A w hW => eqfSem_c s.h2 t.h2 s.sems t.sems w ⟨hW.get 0 rfl (.R_R (stateO_sems s)), hW.get 1 rfl (.R_R (stateO_sems t)), trivial⟩ (allS_map b2).1 (allS_map b2).2 (allS_map c2).2) ?_
 rintro v L ⟨rfl, rfl⟩
 refine CaseB.mk (fun h2 => ?_) (fun h2 => ?_)
 rotate_left
 · have g : ¬ s.pure = t.pure := fun e => by rw [hx] at e; simp [e] at h2
   exact ret0 ⟨by simp [g], rfl⟩ (fun _ => rfl)
 refine stop_call _ cl47 rfl rfl rfl rfl ⟨rfl, rfl⟩ (fun A w hW => eqfOnce_c s.h3 t.h3 s.onces t.onces w ⟨hW.get 0 rfl (.R_R (stateO_onces s)), hW.get 1 rfl (.R_R (stateO_onces t)), trivial⟩ (allS_map b3).1 (allS_map b3).2 (allS_map c3).2) ?_
 rintro v L ⟨rfl, rfl⟩
 refine CaseB.mk (fun h3 => ?_) (fun h3 => ?_)
 rotate_left
 · have g : ¬ s.pure = t.pure := fun e => by rw [hx] at e; simp [e] at h3
   exact ret0 ⟨by simp [g], rfl⟩ (fun _ => rfl)
 refine stop_call _ cl49 rfl rfl rfl rfl ⟨rfl, rfl⟩ (fun A w hW => eqfGroup_c s.h4 t.h4 s.groups t.groups w ⟨hW.get 0 rfl (.R_R (stateO_groups s)), hW.get 1 rfl (.R_R (stateO_groups t)), trivial⟩ (allS_map b4).1 (allS_map b4).2 (allS_map c4).2) ?_
 rintro v L ⟨rfl, rfl⟩
 refine CaseB.mk (fun h4 => ?_) (fun h4 => ?_)
 rotate_left
 · have g : ¬ s.pure = t.pure := fun e => by rw [hx] at e; simp [e] at h4
   exact ret0 ⟨by simp [g], rfl⟩ (fun _ => rfl)
 refine stop_call _ cl51 rfl rfl rfl rfl ⟨rfl, rfl⟩ (fun A w hW => eqfBarrier_c s.h5 t.h5 s.barriers t.barriers w ⟨hW.get 0 rfl (.R_R (stateO_barriers s)), hW.get 1 rfl (.R_R (stateO_barriers t)), trivial⟩ (allS_map b5).1 (allS_map b5).2 (allS_map c5).2) ?_
 rintro v L ⟨rfl, rfl⟩
 refine CaseB.mk (fun h5 => ?_) (fun h5 => ?_)
 rotate_left
 · have g : ¬ s.pure = t.pure := fun e => by rw [hx] at e; simp [e] at h5
   exact ret0 ⟨by simp [g], rfl⟩ (fun _ => rfl)
 refine stop_call _ cl52 rfl rfl rfl rfl ⟨rfl, rfl⟩ (fun A w hW => eqfChan_c s.h6 t.h6 s.chans t.chans w ⟨hW.get 0 rfl (.R_R (stateO_chans s)), hW.get 1 rfl (.R_R (stateO_chans t)), trivial⟩ (allS_map b6).1 (allS_map b6).2 (allS_map c6).2) ?_
 rintro v L ⟨rfl, rfl⟩
 refine CaseB.mk (fun h6 => ?_) (fun h6 => ?_)
 rotate_left
 · have g : ¬ s.pure = t.pure := fun e => by rw [hx] at e; simp [e] at h6
   exact ret0 ⟨by simp [g], rfl⟩ (fun _ => rfl)
 refine stop_call _ cl45 rfl rfl rfl rfl ⟨rfl, rfl⟩ (fun A w hW => eqInts_c s.h7 t.h7 s.said t.said w ⟨hW.get 0 rfl (.ofR (stateO_said s)), hW.get 1 rfl (.ofR (stateO_said t)), trivial⟩ (Nat.le_trans b7 (by decide)) (Nat.le_trans c7 (by decide))) ?_
 rintro v L ⟨rfl, rfl⟩
 refine CaseB.mk (fun h7 => ?_) (fun h7 => ?_)
 rotate_left
 · have g : ¬ s.pure = t.pure := fun e => by rw [hx] at e; simp [e] at h7
   exact ret0 ⟨by simp [g], rfl⟩ (fun _ => rfl)
 refine ret0 ⟨?_, rfl⟩ (fun _ => rfl)
 simp only [decide_eq_true_eq] at h0 h1 h2 h3 h4 h5 h6 h7
 have e : (s.pure = t.pure) ↔ s.fault = t.fault := by rw [hx]; simp [h0, h1, h2, h3, h4, h5, h6, h7]
 show Value.bool (s.fault == t.fault) = _
 rw [decide_eq_decide.2 e]; rfl
theorem step_two {p : Prog} {s : State} {t : Int} {x y : State} {b c : Bool} (i1 : b = true ↔ StepOk p s t) (i2 : b = true → x = doM p s t) (i3 : b = false → x = State.zero) (j1 : c = true ↔ StepOk p s t) (j2 : c = true → y = doM p s t) (j3 : c = false → y = State.zero) : y = x ∧ c = b ∧ x.small20 := by
 have e : c = b := Bool.eq_iff_iff.2 (j1.trans i1.symm)
 subst e
 cases c with
 | true => exact ⟨(j2 rfl).trans (i2 rfl).symm, rfl, by rw [i2 rfl]; exact (i1.1 rfl).2.2.2.small⟩
 | false => exact ⟨(j3 rfl).trans (i3 rfl).symm, rfl, by rw [i3 rfl]; exact zero_small20⟩
theorem Rdy.H {p : ProgH} {s : StateH} {k : Nat} {ops : List Op} {a st : Int} {op : Op} (r : Rdy p.pure s.pure k ops a st op) : ∃ (hkt : k < p.threads.length) (hkp : k < s.places.length) (hks : k < s.status.length), (p.threads[k]).m = ops ∧ s.places[k] = a ∧ s.status[k] = st ∧ a = ((a.toNat : Nat) : Int) ∧ ∃ hlo : a.toNat < (p.threads[k]).m.length, (p.threads[k]).m[a.toNat] = op := by
 have hkt : k < p.threads.length := by have := r.kn; simpa [ProgH.pure] using this
 obtain ⟨hkp, e2⟩ := List.getElem?_eq_some_iff.1 r.h2
 obtain ⟨hks, e3⟩ := List.getElem?_eq_some_iff.1 r.h3
 have e1 : (p.threads[k]).m = ops := by
   have := r.h1
   simp [ProgH.pure, hkt] at this
   exact this
 obtain ⟨h4, e4⟩ := List.getElem?_eq_some_iff.1 r.ho
 refine ⟨hkt, hkp, hks, e1, e2, e3, (Int.toNat_of_nonneg r.a0).symm, by rw [e1]; exact h4, ?_⟩
 subst e1
 exact e4
theorem Fits.lens {p : ProgH} {x : StateH} (f : Fits p.pure x.pure) : x.places.length = p.threads.length ∧ x.status.length = p.threads.length := by
 have h1 := f.np
 have h2 := f.ns
 exact ⟨by simpa [StateH.pure, ProgH.pure] using h1, by simpa [StateH.pure, ProgH.pure] using h2⟩
def MovedR (x s : StateH) (k : Nat) (hx : k < x.places.length) (hs : k < s.places.length) (hx2 : k < x.status.length) (hs2 : k < s.status.length) : Prop :=
 x.fault ≠ 0 ∨ x.places[k] = s.places[k] + 1 ∨ x.status[k] = 1 ∨ (x.status[k] = 2 ∧ s.status[k] = 0)
theorem moved_is {p : ProgH} {s x : StateH} {k : Nat} {ops : List Op} {a st : Int} {op : Op} (r : Rdy p.pure s.pure k ops a st op) (h : Stp p.pure s.pure k st op x.pure) (hx : k < x.places.length) (hs : k < s.places.length) (hx2 : k < x.status.length) (hs2 : k < s.status.length) : MovedR x s k hx hs hx2 hs2 := by
 have e2 : s.places[k] = a := (List.getElem?_eq_some_iff.1 r.h2).2
 have e3 : s.status[k] = st := (List.getElem?_eq_some_iff.1 r.h3).2
 rcases r.self h with ⟨h1, _⟩ | ⟨_, h1, _⟩ | ⟨_, _, _, _, h1 | ⟨h1, h2⟩⟩
 · exact .inl h1
 · exact .inr (.inl (by rw [e2]; exact (List.getElem?_eq_some_iff.1 h1).2))
 · exact .inr (.inr (.inl (List.getElem?_eq_some_iff.1 h1).2))
 · exact .inr (.inr (.inr ⟨(List.getElem?_eq_some_iff.1 h1).2, by rw [e3]; exact h2⟩))
theorem Stp.changed {p : Prog} {s : State} {k : Nat} {st : Int} {op : Op} {x : State} (h : Stp p s k st op x) (h0 : 0 ≤ op.on) {i : Nat} (hne : x.sems[i]? ≠ s.sems[i]?) : op.on = i ∧ (op.kind = 2 ∨ op.kind = 3) := by
 rcases h.sems with e | ⟨hk, y, e⟩
 · exact (hne (by rw [e])).elim
 · refine ⟨?_, hk⟩
   by_cases hi : op.on.toNat = i
   · omega
   · exact (hne (by rw [e, List.getElem?_set_ne hi])).elim
theorem others_is {p : ProgH} {s x : StateH} {k : Nat} {ops : List Op} {a st : Int} {op : Op} (r : Rdy p.pure s.pure k ops a st op) (h : Stp p.pure s.pure k st op x.pure) (j : Nat) (hj : j < p.threads.length) (hne : j ≠ k) (hxp : j < x.places.length) (hsp : j < s.places.length) (hxs : j < x.status.length) (hss : j < s.status.length) :
   (x.places[j] = s.places[j] ∧ x.status[j] = s.status[j]) ∨ (s.status[j] = 1 ∧ x.places[j] = s.places[j] + 1 ∧ ¬ x.status[j] = 1) := by
 have g1 : x.pure.places[j]? = some x.places[j] := List.getElem?_eq_getElem hxp
 have g2 : x.pure.status[j]? = some x.status[j] := List.getElem?_eq_getElem hxs
 have g3 : s.pure.places[j]? = some s.places[j] := List.getElem?_eq_getElem hsp
 have g4 : s.pure.status[j]? = some s.status[j] := List.getElem?_eq_getElem hss
 rcases r.others h j (by simpa [ProgH.pure] using hj) hne with ⟨h1, h2⟩ | ⟨h1, h2, h3⟩
 · rw [g1, g3] at h1
   rw [g2, g4] at h2
   exact .inl ⟨Option.some.inj h1, Option.some.inj h2⟩
 · rw [g4] at h1
   rw [g1, g3] at h2
   rw [g2] at h3
   refine .inr ⟨Option.some.inj h1, Option.some.inj h2, ?_⟩
   rcases h3 with h3 | h3
   · have := Option.some.inj h3; omega
   · have := Option.some.inj h3; omega
theorem Fits.place {p : ProgH} {s : StateH} (f : Fits p.pure s.pure) (j : Nat) (hj : j < p.threads.length) (hsp : j < s.places.length) (hss : j < s.status.length) : 0 ≤ s.places[j] ∧ s.places[j] ≤ 8 := by
 have hth : p.pure.threads[j]? = some (p.threads[j]).m := by simp [ProgH.pure, hj]
 obtain ⟨a0, a1, _⟩ := f.threads j _ _ _ hth (List.getElem?_eq_getElem hsp) (List.getElem?_eq_getElem hss)
 have l8 := (f.prog.ops _ (List.mem_of_getElem? hth)).1
 exact ⟨a0, by omega⟩
set_option maxHeartbeats 32000000 in
set_option maxRecDepth 100000 in
theorem lawStepOthers_c (i : Sl) (xs : List UInt8) (w : World) (h : At w [slo i cByte 1 xs]) :
   Calls Tryz.prog 13 #[i.val xs.length] w (Ret w fun v L => v = .bool true ∧ L = []) := by
 refine calls1 Tryz.func13 rfl tabOk w _ rfl _ rfl _ h ⟨rfl, rfl, trivial⟩ _ (by decide) ?_
 refine CaseB.mk (fun h0 => ?_) (fun h0 => ?_)
 · exact ret0 ⟨rfl, rfl⟩ (fun _ => rfl)
 have hb : xs.length ≤ 4294967296 := by simp at h0; omega
 refine stop_call _ cl36 rfl rfl rfl rfl ⟨rfl, rfl⟩ (fun A w hW => (stepD_c i xs w ⟨z29, trivial⟩ hb)) ?_
 rintro v L ⟨p, s, t, rfl, ok, nr, rfl⟩
 have hp := ok.small20
 have hs := nr.sm
 refine stop_call _ cl35 rfl rfl rfl rfl ⟨rfl, rfl⟩ (fun A w hW => stepThread_c p s t w ⟨hW.get 0 rfl (.O_R fun _ h => h), hW.get 1 rfl (fN_fR _), trivial⟩ hp hs) ?_
 rintro v L ⟨x, b, rfl, i1, i2, i3, rfl⟩
 refine stop_call _ cl37 rfl rfl rfl rfl ⟨rfl, rfl⟩ (fun A w hW => stepThreadS_c p s t w ⟨hW.get 1 rfl (.O_R fun _ h => h), hW.get 2 rfl (fN_fR _), trivial⟩ hp hs) ?_
 rintro v L ⟨y, c, rfl, j1, j2, j3, rfl⟩
 obtain ⟨hyx, rfl, hxs⟩ := step_two i1 i2 i3 j1 j2 j3
 have hys : y.pure.small20 := by rw [hyx]; exact hxs
 refine stop_call _ cl15 rfl rfl rfl rfl ⟨rfl, rfl⟩ (fun A w hW => stateSame_c x y w ⟨hW.get 1 rfl (.O_R fun _ h => h), hW.get 0 rfl (fN_fR _), trivial⟩ hxs hys) ?_
 rintro v L ⟨rfl, rfl⟩
 refine CaseB.mk (fun g => by simp [hyx] at g) (fun _ => ?_)
 refine CaseB.mk (fun g => by simp at g) (fun _ => ?_)
 apply CaseB.mk <;> intro g
 · refine stop_call _ cl15 rfl rfl rfl rfl ⟨rfl, rfl⟩ (fun A w hW => stateSame_c x y w ⟨hW.get 1 rfl (.O_R fun _ h => h), hW.get 0 rfl (fN_fR _), trivial⟩ hxs hys) ?_
   rintro v L ⟨rfl, rfl⟩
   refine CaseB.mk (fun _ => ?_) (fun g => by simp [hyx] at g)
   refine ret0 ⟨?_, rfl⟩ (fun _ => rfl)
   simp
 have so := i1.1 z91
 have hx := i2 z91
 have fx : Fits p.pure x.pure := by rw [hx]; exact so.2.2.2
 obtain ⟨k, ops, a, st, op, rfl, r, hstp⟩ := so.rdy
 rw [← hx] at hstp
 obtain ⟨hkt, hkp, hks, e1, e2, e3, hz, hlo, e4⟩ := r.H
 obtain ⟨lxp, lxs⟩ := fx.lens
 have hxp : k < x.places.length := by omega
 have hxk : k < x.status.length := by omega
 clear i1 i2 i3 j1 j2 j3
 have hsl : s.places.length = p.threads.length := r.ft.lens.1
 have hsl2 : s.status.length = p.threads.length := r.ft.lens.2
 have hpl : s.places.length ≤ 1048576 := hs.1
 have hsd := hstp.said
 have hs1 : s.said.length ≤ 1048576 := hs.2.2.2.2.2.2.2
 refine LoopW.mk ⟨{ j : Nat // j ≤ s.places.length },
   fun j => .mk [(4, .p 1 0), (5, .v (.int .i64 (k : Int))), (6, .p 2 0), (10, .v (.int .i64 (j.1 : Int)))] 4 0 [(2, 30, 9), (1, 30, 9), (0, 37, 5)] [((0, 0), .v (p.h0.val p.sems.length)), ((0, 1), .v (p.h1.val p.groups.length)), ((0, 2), .v (p.h2.val p.barriers.length)), ((0, 3), .v (p.h3.val p.rooms.length)), ((0, 4), .v (p.h4.val p.threads.length)), ((1, 0), .v (s.h0.val s.places.length)), ((1, 1), .v (s.h1.val s.status.length)), ((1, 2), .v (s.h2.val s.sems.length)), ((1, 3), .v (s.h3.val s.onces.length)), ((1, 4), .v (s.h4.val s.groups.length)), ((1, 5), .v (s.h5.val s.barriers.length)), ((1, 6), .v (s.h6.val s.chans.length)), ((1, 7), .v (s.h7.val s.said.length)), ((1, 8), .v (.int .i64 s.fault)), ((2, 0), .v (x.h0.val x.places.length)), ((2, 1), .v (x.h1.val x.status.length)), ((2, 2), .v (x.h2.val x.sems.length)), ((2, 3), .v (x.h3.val x.onces.length)), ((2, 4), .v (x.h4.val x.groups.length)), ((2, 5), .v (x.h5.val x.barriers.length)), ((2, 6), .v (x.h6.val x.chans.length)), ((2, 7), .v (x.h7.val x.said.length)), ((2, 8), .v (.int .i64 x.fault))] [fO (stateO x), fO (progO p), fN (stateO s)],
   fun j => s.places.length - j.1, ⟨0, Nat.zero_le _⟩, ?_, ?_⟩
 · exact weak_mk [1, 2, 3] zw2 zw0 zw2 zw5 zw4 rfl rfl
 rintro ⟨j, hj⟩
 simp only
 refine CaseB.mk (fun gj => ?_) (fun gj => ?_)
 · have hlt : j < s.places.length := by have := of_decide_eq_true gj; omega
   have hw := e_succ j _ hlt (by omega)
   refine CaseB.mk (fun gk => ?_) (fun gk => ?_)
   · refine ⟨⟨j + 1, hlt⟩, ?_, by simp only; omega⟩
     exact weak_mk [0, 1, 2] zw1 zw0 zw1 zw5 zw3 rfl rfl
   have hjk : j ≠ k := fun e => by rw [e] at gk; simp at gk
   have hjx : j < x.places.length := by omega
   have hjy : j < x.status.length := by omega
   have hjs : j < s.status.length := by omega
   have hO := others_is r hstp j (by omega) hjk hjx hlt hjy hjs
   obtain ⟨hp0, hp8⟩ := r.ft.place j (by omega) hlt hjs
   have hwa : IntKind.i64.wrap (s.places[j] + 1) = s.places[j] + 1 := by rw [wrap_nn] <;> omega
   clear hsd hz hlo e4 e1 e2 e3 hyx hys so hx fx r hstp
   refine draw_start tabOk z95 z95 z95 200 [((1, 0), .v (s.h0.val s.places.length)), ((1, 1), .v (s.h1.val s.status.length)), ((2, 0), .v (x.h0.val x.places.length)), ((2, 1), .v (x.h1.val x.status.length))] [0, 2] [_, _] z111 z125 ⟨rfl, rfl, trivial⟩ rfl ?_
   refine d_idx (ti := tiOf tab) encInt tabOk rfl rfl rfl rfl rfl ⟨rfl, rfl⟩ (rdVia 0 rfl (.ofO (stateO_places x))) j rfl z38 (fun ad1 => ?_)
   refine d_idx (ti := tiOf tab) encInt tabOk rfl rfl rfl rfl rfl ⟨rfl, rfl⟩ (rdVia 1 rfl (.trans (fN_fR _) (.ofR (stateO_places s)))) j rfl z38 (fun ad2 => ?_)
   refine CaseB.mk (fun a1 => ?_) (fun a1 => ?_)
   · have a1 : x.places[j] = s.places[j] := by simpa using a1
     refine d_idx (ti := tiOf tab) encInt tabOk rfl rfl rfl rfl rfl ⟨rfl, rfl⟩ (rdVia 0 rfl (.ofO (stateO_status x))) j rfl z38 (fun ad3 => ?_)
     refine d_idx (ti := tiOf tab) encInt tabOk rfl rfl rfl rfl rfl ⟨rfl, rfl⟩ (rdVia 1 rfl (.trans (fN_fR _) (.ofR (stateO_status s)))) j rfl z38 (fun ad4 => ?_)
     refine draw_start tabOk z95 z95 z95 200 [((1, 0), .v (s.h0.val s.places.length)), ((1, 1), .v (s.h1.val s.status.length)), ((2, 0), .v (x.h0.val x.places.length)), ((2, 1), .v (x.h1.val x.status.length))] [0, 2] [_, _] z111 z125 ⟨rfl, rfl, trivial⟩ rfl ?_
     refine d_idx (ti := tiOf tab) encInt tabOk rfl rfl rfl rfl rfl ⟨rfl, rfl⟩ (rdVia 1 rfl (.trans (fN_fR _) (.ofR (stateO_status s)))) j rfl z38 (fun ad5 => ?_)
     refine CaseB.mk (fun b1 => ?_) (fun b1 => ?_)
     · refine d_idx (ti := tiOf tab) encInt tabOk rfl rfl rfl rfl rfl ⟨rfl, rfl⟩ (rdVia 0 rfl (.ofO (stateO_places x))) j rfl z38 (fun ad6 => ?_)
       refine d_idx (ti := tiOf tab) encInt tabOk rfl rfl rfl rfl rfl ⟨rfl, rfl⟩ (rdVia 1 rfl (.trans (fN_fR _) (.ofR (stateO_places s)))) j rfl z38 (fun ad7 => ?_)
       refine CaseB.mk (fun b2 => ?_) (fun b2 => ?_)
       · have b2 : x.places[j] = s.places[j] + 1 := by rw [hwa] at b2; simpa using b2
         refine d_idx (ti := tiOf tab) encInt tabOk rfl rfl rfl rfl rfl ⟨rfl, rfl⟩ (rdVia 0 rfl (.ofO (stateO_status x))) j rfl z38 (fun ad8 => ?_)
         repeat' (refine CaseB.mk (fun _ => ?_) (fun _ => ?_))
         all_goals
           first
           | (exfalso; omega)
           | (exfalso; clear hw hsl hsl2 lxp lxs nr ok hp hs hxs hpl hs1 hp0 hp8 hkt hkp hks hxp hxk h0 hb; revert hO; simp_all; done)
           | (exfalso; clear hw hsl hsl2 lxp lxs nr ok hp hs hxs hpl hs1 hp0 hp8 hkt hkp hks hxp hxk h0 hb; rcases hO with ⟨hA, hB⟩ | ⟨hA, hB, hC⟩ <;> simp_all; done)
           | skip
         all_goals
           refine ⟨⟨j + 1, hlt⟩, ?_, by simp only; omega⟩
           exact weak_mk [0, 1, 2] zw1 zw0 zw1 zw5 zw3 rfl rfl
       · skip
         repeat' (refine CaseB.mk (fun _ => ?_) (fun _ => ?_))
         all_goals
           first
           | (exfalso; omega)
           | (exfalso; clear hw hsl hsl2 lxp lxs nr ok hp hs hxs hpl hs1 hp0 hp8 hkt hkp hks hxp hxk h0 hb; revert hO; simp_all; done)
           | (exfalso; clear hw hsl hsl2 lxp lxs nr ok hp hs hxs hpl hs1 hp0 hp8 hkt hkp hks hxp hxk h0 hb; rcases hO with ⟨hA, hB⟩ | ⟨hA, hB, hC⟩ <;> simp_all; done)
           | skip
         all_goals
           refine ⟨⟨j + 1, hlt⟩, ?_, by simp only; omega⟩
           exact weak_mk [0, 1, 2] zw1 zw0 zw1 zw5 zw3 rfl rfl
     · skip
       repeat' (refine CaseB.mk (fun _ => ?_) (fun _ => ?_))
       all_goals
         first
         | (exfalso; omega)
         | (exfalso; clear hw hsl hsl2 lxp lxs nr ok hp hs hxs hpl hs1 hp0 hp8 hkt hkp hks hxp hxk h0 hb; revert hO; simp_all; done)
         | (exfalso; clear hw hsl hsl2 lxp lxs nr ok hp hs hxs hpl hs1 hp0 hp8 hkt hkp hks hxp hxk h0 hb; rcases hO with ⟨hA, hB⟩ | ⟨hA, hB, hC⟩ <;> simp_all; done)
         | skip
       all_goals
         refine ⟨⟨j + 1, hlt⟩, ?_, by simp only; omega⟩
         exact weak_mk [0, 1, 2] zw1 zw0 zw1 zw5 zw3 rfl rfl
   · skip
     refine draw_start tabOk z95 z95 z95 200 [((1, 0), .v (s.h0.val s.places.length)), ((1, 1), .v (s.h1.val s.status.length)), ((2, 0), .v (x.h0.val x.places.length)), ((2, 1), .v (x.h1.val x.status.length))] [0, 2] [_, _] z111 z125 ⟨rfl, rfl, trivial⟩ rfl ?_
     refine d_idx (ti := tiOf tab) encInt tabOk rfl rfl rfl rfl rfl ⟨rfl, rfl⟩ (rdVia 1 rfl (.trans (fN_fR _) (.ofR (stateO_status s)))) j rfl z38 (fun ad5 => ?_)
     refine CaseB.mk (fun b1 => ?_) (fun b1 => ?_)
     · refine d_idx (ti := tiOf tab) encInt tabOk rfl rfl rfl rfl rfl ⟨rfl, rfl⟩ (rdVia 0 rfl (.ofO (stateO_places x))) j rfl z38 (fun ad6 => ?_)
       refine d_idx (ti := tiOf tab) encInt tabOk rfl rfl rfl rfl rfl ⟨rfl, rfl⟩ (rdVia 1 rfl (.trans (fN_fR _) (.ofR (stateO_places s)))) j rfl z38 (fun ad7 => ?_)
       refine CaseB.mk (fun b2 => ?_) (fun b2 => ?_)
       · have b2 : x.places[j] = s.places[j] + 1 := by rw [hwa] at b2; simpa using b2
         refine d_idx (ti := tiOf tab) encInt tabOk rfl rfl rfl rfl rfl ⟨rfl, rfl⟩ (rdVia 0 rfl (.ofO (stateO_status x))) j rfl z38 (fun ad8 => ?_)
         repeat' (refine CaseB.mk (fun _ => ?_) (fun _ => ?_))
         all_goals
           first
           | (exfalso; omega)
           | (exfalso; clear hw hsl hsl2 lxp lxs nr ok hp hs hxs hpl hs1 hp0 hp8 hkt hkp hks hxp hxk h0 hb; revert hO; simp_all; done)
           | (exfalso; clear hw hsl hsl2 lxp lxs nr ok hp hs hxs hpl hs1 hp0 hp8 hkt hkp hks hxp hxk h0 hb; rcases hO with ⟨hA, hB⟩ | ⟨hA, hB, hC⟩ <;> simp_all; done)
           | skip
         all_goals
           refine ⟨⟨j + 1, hlt⟩, ?_, by simp only; omega⟩
           exact weak_mk [0, 1, 2] zw1 zw0 zw1 zw5 zw3 rfl rfl
       · skip
         repeat' (refine CaseB.mk (fun _ => ?_) (fun _ => ?_))
         all_goals
           first
           | (exfalso; omega)
           | (exfalso; clear hw hsl hsl2 lxp lxs nr ok hp hs hxs hpl hs1 hp0 hp8 hkt hkp hks hxp hxk h0 hb; revert hO; simp_all; done)
           | (exfalso; clear hw hsl hsl2 lxp lxs nr ok hp hs hxs hpl hs1 hp0 hp8 hkt hkp hks hxp hxk h0 hb; rcases hO with ⟨hA, hB⟩ | ⟨hA, hB, hC⟩ <;> simp_all; done)
           | skip
         all_goals
           refine ⟨⟨j + 1, hlt⟩, ?_, by simp only; omega⟩
           exact weak_mk [0, 1, 2] zw1 zw0 zw1 zw5 zw3 rfl rfl
     · skip
       repeat' (refine CaseB.mk (fun _ => ?_) (fun _ => ?_))
       all_goals
         first
         | (exfalso; omega)
         | (exfalso; clear hw hsl hsl2 lxp lxs nr ok hp hs hxs hpl hs1 hp0 hp8 hkt hkp hks hxp hxk h0 hb; revert hO; simp_all; done)
         | (exfalso; clear hw hsl hsl2 lxp lxs nr ok hp hs hxs hpl hs1 hp0 hp8 hkt hkp hks hxp hxk h0 hb; rcases hO with ⟨hA, hB⟩ | ⟨hA, hB, hC⟩ <;> simp_all; done)
         | skip
       all_goals
         refine ⟨⟨j + 1, hlt⟩, ?_, by simp only; omega⟩
         exact weak_mk [0, 1, 2] zw1 zw0 zw1 zw5 zw3 rfl rfl
 have hpre : x.said.take s.said.length = s.said ∧ s.said.length ≤ x.said.length ∧ x.said.length ≤ s.said.length + 1 := by
   rcases hsd with ⟨h, _⟩ | ⟨v, h, _⟩
   · have h : x.said = s.said := h
     rw [h]
     exact ⟨List.take_of_length_le (Nat.le_refl _), Nat.le_refl _, by omega⟩
   · have h : x.said = s.said ++ [v] := h
     rw [h]
     exact ⟨by simp, by simp, by simp⟩
 obtain ⟨q1, q2, q3⟩ := hpre
 have hwl := e_succ s.said.length 1048577 (by omega) (by omega)
 refine draw_start tabOk z95 z95 z95 200 [((1, 7), .v (s.h7.val s.said.length)), ((2, 7), .v (x.h7.val x.said.length))] [0, 2] [_, _] z124 z134 ⟨rfl, rfl, trivial⟩ rfl ?_
 refine CaseB.mk (fun _ => ?_) (fun g => by have := of_decide_eq_false g; omega)
 refine CaseB.mk (fun _ => ?_) (fun g => by have := of_decide_eq_false g; omega)
 refine d_cut (ti := tiOf tab) tabOk rfl rfl rfl rfl ⟨rfl, rfl⟩ rfl rfl (rdVia 0 rfl (.ofO (stateO_said x))) (0) (s.said.length) ((x.said.take s.said.length)).length rfl rfl z38 z38 z38 ?_
 refine d_call _ cl30 rfl rfl rfl rfl ⟨rfl, rfl⟩ (fun A w hW => wkInts_c (x.h7.cut 0 1) s.h7 (x.said.take s.said.length) s.said w ⟨atCut encInt 0 s.said.length (by omega) (by omega) (by simp) (hW.get 0 rfl (.ofO (stateO_said x))), hW.get 2 rfl (.trans (fN_fR _) (.ofR (stateO_said s))), trivial⟩ (by rw [q1]; omega) (by omega)) ?_
 rintro v L ⟨rfl, rfl⟩
 refine ret0 ⟨?_, rfl⟩ (fun _ => rfl)
 simp [q1]
end Go.Proofs.YtjkkoonennpceaaGreat
namespace Go.Sx
open Go Go.RowKit Go.ChangeShapes Go.WideShapes
theorem trodAll_below {H : Type} {enc : TypeId × Value → H} {P : Program} (hl : laidOutB P = true) {W W' : World} (hb : Below W.heap.size W W') (sp : Nat → Bool) : ∀ {ts : List TypeId} {vs : List Value} {ds : List (DataW H)} {ps : List MemPlace}, (∀ t ∈ ts, P.readableRec t = true ∧ t < P.types.size) →
   DataW.TrodAll enc P W 0 (fun _ => true) true ts vs ds ps → (∀ x ∈ ps, x.block < W.heap.size) → (∀ x ∈ ps, sp x.block = true) → DataW.TrodAll enc P W' 0 sp true ts vs ds ps
 | [], [], [], ps, _, h, _, _ => h
 | t :: ts, v :: vs, d :: ds, ps, hr, h, hlt, hsp => by
   obtain ⟨p, q, h1, h2, rfl⟩ := h
   have ht := hr t (by simp)
   exact ⟨p, q, WideElems.Trod_stays hl ht.1 ht.2 h1 (fun x hx => hb.same (hlt x (by simp [hx]))) (fun x hx => hsp x (by simp [hx])),
     trodAll_below hl hb sp (fun t ht => hr t (by simp [ht])) h2 (fun x hx => hlt x (by simp [hx])) (fun x hx => hsp x (by simp [hx])), rfl⟩
 | [], _ :: _, _, _, _, h, _, _ => h.elim
 | _ :: _, [], _, _, _, h, _, _ => h.elim
 | [], [], _ :: _, _, _, h, _, _ => h.elim
 | _ :: _, _ :: _, [], _, _, h, _, _ => h.elim
theorem law_post {H : Type} {enc : TypeId × Value → H} {P : Program} {f : Func} {s : ChangeSpec} {apart fresh handsOn again : Bool} {W W' : World} {args : Array Value} {ds gs : List (DataW H)} {before : List MemPlace} {tb : TypeId} {pl : List TypeId}
   (hl : laidOutB P = true) (hpl : f.params.toList = pl) (hp : pl.all (fun t => P.readableRec t && decide (t < P.types.size)) = true) (hvars : s.vars = []) (hres : f.resultTypes = #[tb]) (htb : P.underlying tb = some .bool)
   (hspec : s.fn H (ds ++ gs) = { results := [.lit (.bool true)], args := ds })
   (hW : DataW.Whole enc P f.params.toList s.vars apart W args.toList ds gs before) (hb : Below W.heap.size W W') :
   s.post enc P f apart fresh handsOn again W args (.bool true) W' := by
 have hold : ∀ p ∈ before, p.block < W.heap.size := fun p hp => by simpa using hW.lt p hp
 have hW0 := hW
 obtain ⟨pa, pv, hA, hV, hbef, hfz, hnd⟩ := hW
 have hbef' := hbef.symm; clear hbef
 rw [hvars] at hV
 obtain ⟨rfl, rfl⟩ := trodVars_none hV
 rw [List.append_nil] at hbef'
 subst hbef'
 rw [List.append_nil] at hspec
 have hp' : ∀ t ∈ f.params.toList, P.readableRec t = true ∧ t < P.types.size := fun t ht => by
   rw [hpl] at ht
   have := List.all_eq_true.1 hp t ht
   simpa using this
 have hB : ∀ (b : Nat) (sp : Nat → Bool) (hd : Bool), DataW.Trod enc P W' b sp hd tb (.bool true) (.lit (.bool true)) [] := fun b sp hd => ⟨1, by simp [DataW.trod, Value.cells, htb]⟩
 have hrl : (Value.bool true).resultList f.resultTypes.size = [.bool true] := by rw [hres]; rfl
 have hR : ∀ (b : Nat) (sp : Nat → Bool) (hd : Bool), DataW.TrodAll enc P W' b sp hd f.resultTypes.toList ((Value.bool true).resultList f.resultTypes.size) [.lit (.bool true)] [] := fun b sp hd => by
   rw [hrl, hres]; exact trodAll_mk1 (hB b sp hd)
 have hAr := fun sp h => trodAll_below hl hb sp hp' hA hold h
 have hvv : ∀ sp, DataW.TrodVars enc P W' sp s.vars ([] : List (DataW H)) [] := fun sp => by rw [hvars]; rfl
 refine ⟨ds, [], pa, [], pa, [], hW0, ?_, ?_, ?_, ?_, fun _ => ⟨?_, [.lit (.bool true)] ++ ds, [], [] ++ pa, ⟨[] ++ pa, [], trodAll_append (hAr _ (fun _ _ => rfl)) (hR _ _ _), hvv _, by simp, ?_, ?_⟩, fun p hp _ => by simpa using hp⟩⟩
 · simp only [List.append_nil, hspec]; exact hR _ _ _
 · simp only [List.append_nil, hspec]; exact hAr _ (fun p hp => by simpa using hold p hp)
 · simp only [List.append_nil, hspec]; exact hvv _
 · exact World.keptBut_mono (fun p hp => hp.elim) (hb.frame (fun _ => False))
 · intro j t r hj hv
   rw [hrl] at hv
   rw [hres] at hj
   cases j with
   | succ j => simp at hv
   | zero =>
     simp at hj hv
     subst hj; subst hv
     simp [Value.okWide, htb, Cell.okWide, Cell.ok]
 · intro b off hp
   rw [hb.frozen (hold _ (by simpa using hp))]
   exact hfz b off (by simpa using hp)
 · intro h
   simpa using hnd h
section
variable {H : Type} {enc : TypeId × Value → H} {P : Program} {W : World}
theorem cells_inv {α : Type} {el : α → List Value} {sz : Nat} (he : Enc el sz) (h0 : 0 < sz) {xs : List α} {j : Nat} {u : Value} (h : (cells el xs)[j]? = some u) : ∃ (k r : Nat) (hk : k < xs.length), j = k * sz + r ∧ (el xs[k])[r]? = some u := by
 have hlt : j < xs.length * sz := by rw [← cells_length he]; exact (List.getElem?_eq_some_iff.1 h).1
 have hk : j / sz < xs.length := Nat.div_lt_of_lt_mul (by rwa [Nat.mul_comm] at hlt)
 have hr : j % sz < sz := Nat.mod_lt _ h0
 have hj : j = j / sz * sz + j % sz := (Nat.div_add_mod' j sz).symm
 refine ⟨j / sz, j % sz, hk, hj, ?_⟩
 have hr' : j % sz < (el xs[j / sz]).length := by rw [he.len]; exact hr
 have := cells_at he hk (List.getElem?_eq_getElem hr')
 rw [← hj, h] at this
 rw [List.getElem?_eq_getElem hr', ← this]
theorem open_sl {α : Type} {el : α → List Value} {sz : Nat} (he : Enc el sz) (h0 : 0 < sz) {t e : TypeId} {fuel : Nat} {cs : List Value} {x : DataW H × List MemPlace} (ht : P.underlying t = some (.slice e)) (hc : P.cellsOf e = sz)
   (hel : ∀ n cs y, DataW.trod enc P W 0 (fun _ => true) true n e cs = some y → ∃ a : α, cs = el a)
   (h : DataW.trod enc P W 0 (fun _ => true) true fuel t cs = some x) :
   ∃ (i : Sl) (xs : List α), cs = [i.val xs.length] ∧ RdS W i sz (cells el xs) xs.length ∧ ∀ b, (fSl true i sz (cells el xs) xs.length).foot b → b < W.heap.size := by
 rcases Deep.open_slice ht h with ⟨rfl, rfl⟩ | ⟨a, len, cap, m, n, D, Pl, rfl, hb, hl, hm, hmm, rfl, hx⟩
 · exact ⟨⟨none, 0⟩, [], rfl, ⟨by simp [cells], by simp, by simp [maxLen], fun h => by simp at h⟩, fun b hb => by have := hb.1; simp at this⟩
 · rw [hc] at hx
   have hlm : len ≤ m := by rw [hmm]; simp; omega
   have hone : ∀ i, i < len → ∃ y : α, ∀ r u, (el y)[r]? = some u → W.cell? (a.add (i * sz + r)) = some u := fun i hi => by
     obtain ⟨cs', h1, h2⟩ := hx i (by omega)
     obtain ⟨y, rfl⟩ := hel _ _ _ h2
     obtain ⟨_, g1, g2⟩ := World.cells?_some h1
     refine ⟨y, fun r u hu => ?_⟩
     have hr : r < sz := by rw [← g1]; exact (List.getElem?_eq_some_iff.1 hu).1
     have := g2 r hr
     rw [addr_add_add, hu] at this
     exact this
   rcases Nat.eq_zero_or_pos len with hz | hz
   · subst hz
     exact ⟨⟨some a, cap⟩, [], rfl, ⟨by simp [cells], by simp, hm, fun h => by simp at h⟩, fun b hb => by have := hb.1; simp at this⟩
   · have : Inhabited α := ⟨(hone 0 hz).choose⟩
     obtain ⟨X, hX⟩ := Deep.choose_lt hone
     have hlen : ((List.range len).map X).length = len := by simp
     refine ⟨⟨some a, cap⟩, (List.range len).map X, by rw [hlen]; rfl, ⟨by rw [cells_length he], by rw [hlen]; exact hl, hm, fun _ => ⟨a, rfl, fun j u hu => ?_⟩⟩, ?_⟩
     · obtain ⟨k, r, hk, rfl, hu'⟩ := cells_inv he h0 hu
       have hk' : k < len := by simpa using hk
       exact hX k hk' r u (by simpa using hu')
     · rintro b ⟨_, ad, had, rfl⟩
       injection had with had
       subst had
       have hr : 0 < (el (X 0)).length := by rw [he.len]; exact h0
       have hc0 := hX 0 hz 0 _ (List.getElem?_eq_getElem hr)
       unfold World.cell? at hc0
       rw [block_add] at hc0
       cases hh : W.heap[a.block]? with
       | none => rw [hh] at hc0; simp at hc0
       | some o => exact (Array.getElem?_eq_some_iff.1 hh).1
theorem val_slice {base : Nat} {t e : TypeId} {r : Reach} {v : Value} {i : Sl} {n : Nat} (ht : P.underlying t = some (.slice e)) (hv : Value.okWide P W r base t v) (h : v.cells.toList = [i.val n]) : v = i.val n := by
 obtain ⟨a, len, cap, rfl⟩ := okWide_slice ht hv
 simpa [Value.cells] using h
end
end Go.Sx
