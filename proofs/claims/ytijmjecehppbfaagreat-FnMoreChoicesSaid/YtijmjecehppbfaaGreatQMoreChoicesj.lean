/- FnMoreChoices: texts that its proof stands on, part 10. -/
import Derived.Test.YtijmjecehppbfaaGreatQMoreChoicesi
namespace Go.Proofs.YtijmjecehppbfaaGreat
set_option maxRecDepth 100000
set_option maxHeartbeats 100000000
open Go Go.Sx Go.RowKit
theorem eU (p : Prog) : ∀ (who : List Int) (s s' : State), s'.places = s.places → s'.status = s.status → onM p who s' = { s' with places := (onM p who s).places, status := (onM p who s).status }
 | [], s, s', e1, e2 => by cases s'; simp only [onM, List.foldl_nil] at *; simp [e1, e2]
 | x :: r, s, s', e1, e2 => by
   have h := eU p r (goM p s x) (goM p s' x) (by simp only [goM, e1]) (by simp only [goM, e1, e2])
   have e : ∀ s, onM p (x :: r) s = onM p r (goM p s x) := fun _ => rfl
   rw [e, e, h]; rfl
theorem pC (p : Prog) (s s' : State) (t : Int) (b : Bool) (e1 : s'.places = s.places) (e2 : s'.status = s.status) : cC p s' t b = { s' with places := (cC p s t b).places, status := (cC p s t b).status } := by
 unfold cC
 split
 · exact eU p [t] s s' e1 e2
 · simp only [bE, e1, e2]
theorem qY (p : Prog) (a b : List Int) (s : State) : onM p (a ++ b) s = onM p b (onM p a s) := List.foldl_append
theorem fT {Zs : List Fct} {y : StateH} (k0 k1 k2 k3 k4 k5 k6 k7 : Nat) (e0 : Zs[k0]? = some (own y.h0 3 aJ 1 y.places)) (e1 : Zs[k1]? = some (own y.h1 3 aJ 1 y.status)) (e2 : Zs[k2]? = some (own y.h2 95 gI 3 y.sems)) (e3 : Zs[k3]? = some (own y.h3 102 eD 4 y.onces)) (e4 : Zs[k4]? = some (own y.h4 108 dR 2 y.groups)) (e5 : Zs[k5]? = some (own y.h5 114 dA 3 y.barriers)) (e6 : Zs[k6]? = some (own y.h6 119 fH 5 y.chans)) (e7 : Zs[k7]? = some (own y.h7 3 aJ 1 y.said)) : ∀ g ∈ qH y, g ∈ Zs := by
 intro g hg
 simp only [qH, List.mem_cons, List.not_mem_nil, or_false] at hg
 rcases hg with rfl | rfl | rfl | rfl | rfl | rfl | rfl | rfl
 · exact List.mem_of_getElem? e0
 · exact List.mem_of_getElem? e1
 · exact List.mem_of_getElem? e2
 · exact List.mem_of_getElem? e3
 · exact List.mem_of_getElem? e4
 · exact List.mem_of_getElem? e5
 · exact List.mem_of_getElem? e6
 · exact List.mem_of_getElem? e7
theorem eW (p : Prog) (s : State) (t : Int) (b : Bool) : (cC p s t b).places.length = s.places.length ∧ (cC p s t b).status.length = s.status.length := by
 unfold cC
 split
 · exact aT p [t] s
 · simp [bE]
theorem aX0 (p : ProgH) (s : StateH) (t : Int) (w : World) (h : At w [fR (aY p), fR (aK s)]) (hp : p.pure.small20) (hs : s.pure.small20) :
   Calls Tryz.prog 28 #[dW p, aM s, .int .i64 t] w (Ret w (StepR p.pure s.pure t)) := by
 have hb : s.status.length ≤ 1048576 := hs.2.1
 refine gQ Tryz.func28 rfl aA w _ rfl _ rfl _ h ⟨rfl, rfl, rfl, rfl, trivial⟩ _ _ _ (by decide) ?_
 refine aB _ cl62 rfl rfl rfl rfl ⟨rfl, rfl⟩ (fun A w hW => cM0 p s w ⟨hW.get 0 rfl (.refl _), hW.get 1 rfl (.refl _), trivial⟩ hp hs) ?_
 rintro v L ⟨b, rfl, hbb, rfl⟩
 apply CaseB.mk <;> intro g
 · have n : ¬ StepOk p.pure s.pure t := fun e => by rw [hbb.2 e.1] at g; cases g
   refine aO (.joinO [90] (Gs := [_]) ⟨.inr ⟨Nat.le_of_ble_eq_true rfl, dU⟩, trivial⟩ rfl (G := aK StateH.zero) (.of_eq (by simp))) ?_
   exact bG [0] ⟨StateH.zero, false, rfl, tno n, fun e => z105, fun _ => rfl, rfl⟩ z144 rfl ⟨rfl, trivial⟩ (fun _ => rfl)
 have ft := hbb.1 z98
 refine aB _ cl58 rfl rfl rfl rfl ⟨rfl, rfl⟩ (fun A w hW => gF0 s w ⟨hW.get 1 rfl (.refl _), trivial⟩ hb) ?_
 rintro v L ⟨yr, rfl, rfl⟩
 have hrl : (cG s.pure).length ≤ 1048576 := by
   rw [cG]; split
   · exact Nat.le_trans (mY _) hb
   · simp
 refine aB _ dU0 rfl rfl rfl rfl ⟨rfl, rfl⟩ (fun A w hW => jM yr (cG s.pure) t w ⟨z34, trivial⟩ (by omega)) ?_
 rintro v L ⟨rfl, rfl⟩
 apply CaseB.mk <;> intro g
 · have n : ¬ StepOk p.pure s.pure t := fun e => by have := e.2.1; simp [this] at g
   refine aO (.joinO [90] (Gs := [_]) ⟨.inr ⟨Nat.le_of_ble_eq_true rfl, dU⟩, trivial⟩ rfl (G := aK StateH.zero) (.of_eq (by simp))) ?_
   exact bG [0] ⟨StateH.zero, false, rfl, tno n, fun e => z105, fun _ => rfl, rfl⟩ z144 rfl ⟨rfl, trivial⟩ (fun _ => rfl)
 have hm : t ∈ cG s.pure := by simpa using g
 obtain ⟨k, ops, a, st, op, rfl, r⟩ := rdy ft hm
 have lt : p.pure.threads.length = p.threads.length := by simp [ProgH.pure]
 have hkt : k < p.threads.length := by rw [← lt]; exact r.kn
 have hks : k < s.status.length := (List.getElem?_eq_some_iff.1 r.h3).1
 have hkp : k < s.places.length := (List.getElem?_eq_some_iff.1 r.h2).1
 have hth : (p.threads[k]).m = ops := by have := r.h1; simp only [ProgH.pure, List.getElem?_map, List.getElem?_eq_getElem hkt, Option.map_some, Option.some.injEq] at this; exact this
 have hpl : s.places[k] = a := (List.getElem?_eq_some_iff.1 r.h2).2
 have hz : s.places[k] = ((s.places[k]).toNat : Int) := by have := r.a0; rw [hpl]; omega
 have hlo : (s.places[k]).toNat < (p.threads[k]).m.length := by rw [hth, hpl]; exact (List.getElem?_eq_some_iff.1 r.ho).1
 have hopg : (p.threads[k]).m[(s.places[k]).toNat] = op := by
   have := r.ho
   rw [← hth, ← hpl] at this
   exact (List.getElem?_eq_some_iff.1 this).2
 have n4 : p.threads.length ≤ 4 := by rw [← lt]; exact ft.prog.n4
 refine aF aA z102 z102 z102 200 [((0, 0), .v (p.h0.val p.sems.length)), ((0, 1), .v (p.h1.val p.groups.length)), ((0, 2), .v (p.h2.val p.barriers.length)), ((0, 3), .v (p.h3.val p.rooms.length)), ((0, 4), .v (p.h4.val p.threads.length)), ((1, 0), .v (s.h0.val s.places.length)), ((1, 1), .v (s.h1.val s.status.length)), ((1, 2), .v (s.h2.val s.sems.length)), ((1, 3), .v (s.h3.val s.onces.length)), ((1, 4), .v (s.h4.val s.groups.length)), ((1, 5), .v (s.h5.val s.barriers.length)), ((1, 6), .v (s.h6.val s.chans.length)), ((1, 7), .v (s.h7.val s.said.length)), ((1, 8), .v (.int .i64 s.fault))] [] [] z106 z111 trivial rfl ?_
 refine bN _ pJ rfl rfl rfl rfl ⟨rfl, rfl⟩ (fun A w hW => cO s w ⟨hW.get 2 rfl (.refl _), trivial⟩ hs) ?_
 rintro v L ⟨y, rfl, hy, rfl⟩
 have hy0 : y.places = s.places := congrArg State.places hy
 have hy1 : y.status = s.status := congrArg State.status hy
 have hy2 : y.sems.map (·.m) = s.sems.map (·.m) := congrArg State.sems hy
 have hy3 : y.onces.map (·.m) = s.onces.map (·.m) := congrArg State.onces hy
 have hy4 : y.groups.map (·.m) = s.groups.map (·.m) := congrArg State.groups hy
 have hy5 : y.barriers.map (·.m) = s.barriers.map (·.m) := congrArg State.barriers hy
 have hy6 : y.chans.map (·.m) = s.chans.map (·.m) := congrArg State.chans hy
 have hy7 : y.said = s.said := congrArg State.said hy
 have hnp : s.places.length = p.threads.length := by rw [← lt]; exact ft.np
 have hns : s.status.length = p.threads.length := by rw [← lt]; exact ft.ns
 have hnm : y.places.length = y.status.length := by rw [hy0, hy1, hnp, hns]
 have hn : p.threads.length = y.places.length := by rw [hy0, hnp]
 have hn4 : y.places.length ≤ 100 := by omega
 have hkn : 0 ≤ (k : Int) ∧ (k : Int) < (y.places.length : Int) := by omega
 have hw1 : ∀ x ∈ [(k : Int)], 0 ≤ x ∧ x < (y.places.length : Int) := fun x hx => by simp at hx; rw [hx]; exact hkn
 have hsd : y.said.length ≤ 64 := by rw [hy7]; exact ft.lsaid
 have hp0 : ∀ a ∈ y.pure.places, 0 ≤ a ∧ a ≤ 20 := by
   rw [hy]
   intro x hx
   obtain ⟨u, hu, rfl⟩ := List.getElem_of_mem hx
   have hu2 : u < p.pure.threads.length := by rw [← ft.np]; exact hu
   obtain ⟨c0, c1, _⟩ := ft.threads u _ _ _ (List.getElem?_eq_getElem hu2) (List.getElem?_eq_getElem hu) (List.getElem?_eq_getElem (by rw [ft.ns]; exact hu2))
   have := (ft.prog.ops _ (List.getElem_mem hu2)).1
   exact ⟨c0, by omega⟩
 have hpA : ∀ a ∈ y.pure.places, 0 ≤ a ∧ a ≤ 100 := fun x hx => by have := hp0 x hx; omega
 refine d_box rfl ⟨rfl, rfl⟩ rfl rfl ?_
 conv => whnf
 apply jP
 · exact Shift.read 2 (f := fR (aY p)) (g := slo p.h4 kP 1 p.threads) rfl rfl rfl rfl (.trans (.R_R (bB p)) (.ofR aX))
 apply jP
 · exact Shift.splitO 1 (L := qH y) (G := aK y) (G' := gW y) rfl (nP y)
 refine aF aA z102 z102 z102 200 [((0, 4), .v (p.h4.val p.threads.length)), ((1, 0), .v (s.h0.val s.places.length))] [11, 12] [_, _] z135 z145 ⟨rfl, rfl, trivial⟩ rfl ?_
 refine bO (ti := aU tab) dT aA rfl rfl rfl rfl rfl ⟨rfl, rfl⟩ (aL 0 rfl (.trans (.R_R (bB p)) (.ofR aX))) k rfl z43 (fun ad1 => ?_)
 refine bO (ti := aU tab) aE aA rfl rfl rfl rfl rfl ⟨rfl, rfl⟩ (aL 1 rfl (.ofR (eF s))) k rfl z43 (fun ad2 => ?_)
 refine bO (ti := aU tab) oE aA rfl rfl rfl rfl rfl ⟨rfl, rfl⟩ (aL 0 rfl (.trans (.R_R (bB p)) (.ofR (fZ _ _ k hkt)))) (s.places[k]).toNat hz z43 (fun ad3 => ?_)
 rw [hopg]
 have hdm : doM p.pure s.pure k = dD p.pure s.pure k op := by rw [doM, r.at_]
 have hso : StepOk p.pure s.pure k ↔ (doM p.pure s.pure k).said.length ≤ 64 ∧ ¬ sD p.pure s.pure k := by
   rw [xM]; exact ⟨fun e => e.2.2, fun e => ⟨ft, hm, e⟩⟩
 have hwn : op.kind ≠ 7 → ¬ sD p.pure s.pure k := fun hk hw => by rw [sD, r.at_] at hw; exact hk hw.1
 refine CaseB.mk (fun g => ?_) (fun g1 => ?_)
 · have k1 : op.kind = 1 := by simpa using g
   refine cF _ [7] (G := [_]) oL0 rfl rfl rfl rfl ⟨rfl, rfl⟩ rfl rfl ⟨rfl, trivial⟩ ⟨rfl, rfl, trivial⟩ (fun A w ga hga hW hblk => (kL0 ga _ _ p y y.h7 y.said false op.arg w hblk (hW.atG [7] (G := [_]) ⟨rfl, trivial⟩ rfl ⟨rfl, rfl, trivial⟩ [] (Fo := []) trivial rfl) (hW.atG_off z103 hga (ix := [7]) (G := [_]) ⟨rfl, trivial⟩ (jx := []) (Fo := []) trivial) (by omega))) ?_
   rintro v cs L ⟨rfl, z9, rfl, rfl⟩
   refine AllSl.mk fun zt => ?_
   refine cF _ [2, 3] (G := [_, _]) rT rfl rfl rfl rfl ⟨rfl, rfl⟩ rfl rfl ⟨rfl, rfl, trivial⟩ ⟨rfl, rfl, rfl, rfl, trivial⟩ (fun A w ga hga hW hblk => (jU ga _ _ p y _ _ zt [(k : Int)] (y.pure) w hblk (hW.atG [2, 3] (G := [_, _]) ⟨rfl, rfl, trivial⟩ rfl ⟨rfl, rfl, rfl, rfl, trivial⟩ [10, 0] (Fo := [_, _]) z142 rfl) (hW.atG_off z103 hga (ix := [2, 3]) (G := [_, _]) ⟨rfl, rfl, trivial⟩ (jx := [10, 0]) (Fo := [_, _]) z142) rfl rfl hnm hn hw1 (by simp) hpA hn4)) ?_
   rintro v cs L ⟨rfl, rfl, rfl⟩
   have hlp : (onM p.pure [(k : Int)] (y.pure)).places.length = y.places.length := ((aT _ _ _).1.trans rfl)
   have hls : (onM p.pure [(k : Int)] (y.pure)).status.length = y.status.length := ((aT _ _ _).2.trans rfl)
   apply CaseB.mk <;> intro g
   · have hf : 64 ≤ y.said.length := by simpa using g
     have n : ¬ StepOk p.pure s.pure k := fun e => by
       have h := (hso.1 e).1
       rw [hdm, dD, if_pos k1, qG] at h
       have h' : (s.said ++ [op.arg]).length ≤ 64 := h
       rw [← hy7] at h'
       simp at h'
       omega
     refine aO (.joinO [90] (Gs := [_]) ⟨.inr ⟨Nat.le_of_ble_eq_true rfl, dU⟩, trivial⟩ rfl (G := aK StateH.zero) (.of_eq (by simp))) ?_
     exact bG [0] ⟨StateH.zero, false, rfl, tno n, fun e => z105, fun _ => rfl, rfl⟩ z144 rfl ⟨rfl, trivial⟩ (fun _ => rfl)
   have hf : ¬ 64 ≤ y.said.length := by simpa using g
   obtain ⟨y9, hy9⟩ : ∃ y9 : StateH, y9 = ⟨(onM p.pure [(k : Int)] (y.pure)).places, (onM p.pure [(k : Int)] (y.pure)).status, y.sems, y.onces, y.groups, y.barriers, y.chans, (kU y.said op.arg), y.fault, y.h0, y.h1, y.h2, y.h3, y.h4, y.h5, y.h6, z9⟩ := ⟨_, rfl⟩
   have hP : y9.pure = doM p.pure s.pure k := by
     rw [hdm, dD, if_pos k1, ← hy, eU p.pure [(k : Int)] y.pure (kF y.pure op.arg) rfl rfl, hy9]
     simp only [kU, if_neg hf]
     rfl
   have h64 : (doM p.pure s.pure k).said.length ≤ 64 := by
     rw [← hP, hy9]
     show (kU y.said op.arg).length ≤ 64
     rw [kU, if_neg hf]
     simp; omega
   have hok : StepOk p.pure s.pure k := hso.2 ⟨h64, hwn (by omega)⟩
   have hsm : y9.pure.small20 := by rw [hP]; exact hok.2.2.2.small
   have hv : aM y9 = .agg #[y.h0.val y.places.length, y.h1.val y.status.length, y.h2.val y.sems.length, y.h3.val y.onces.length, y.h4.val y.groups.length, y.h5.val y.barriers.length, y.h6.val y.chans.length, (z9).val ((kU y.said op.arg)).length, .int .i64 y.fault] := by
     rw [hy9]; simp only [aM, hlp, hls]
   have hcl := fun w h => cO y9 w h hsm
   rw [hv] at hcl
   refine aB _ pJ rfl rfl rfl rfl ⟨rfl, rfl⟩ (fun A w hW => hcl w ⟨sE hW (jV y9 (by rw [hy9]; exact fT 0 1 4 5 6 7 8 3 rfl rfl rfl rfl rfl rfl rfl rfl) (by rw [hy9]; exact fun g hg => inO 9 rfl hg)), trivial⟩) ?_
   rintro v L ⟨y3, rfl, hy3, rfl⟩
   exact bG [0] ⟨y3, true, rfl, jS hok, fun _ => hy3.trans hP, fun e => z105, rfl⟩ z144 rfl ⟨rfl, trivial⟩ (fun _ => rfl)
 refine CaseB.mk (fun g => ?_) (fun g2 => ?_)
 · have hk : op.kind = 2 := by simpa using g
   obtain ⟨x, hx, hxa, ok, a1, a2, hi⟩ := r.sem (.inl hk)
   have hil : op.on.toNat < s.sems.length := by have := (List.getElem?_eq_some_iff.1 hx).1; simpa [StateH.pure] using this
   have hxe : (s.sems[op.on.toNat]'hil).m = x := by have := hx; simp only [StateH.pure, List.getElem?_map, List.getElem?_eq_getElem hil, Option.map_some, Option.some.injEq] at this; exact this
   subst hxe
   have hjl : op.on.toNat < y.sems.length := by have := congrArg List.length hy2; simp at this; omega
   have hnq := fun u (h : aN (bH s.pure) u = []) => (kX hx (s.sems[op.on.toNat]).m).none h
   have hD : doM p.pure s.pure k = kA p.pure s.pure k op := by rw [hdm, dD, if_neg (by omega), if_pos hk]
   have hq := bC.1 (hnq _ r.ev)
   obtain ⟨x1, b1, hac⟩ : ∃ x1 b1, (s.sems[op.on.toNat]'hil).m.acquire k op.arg = (x1, b1) := ⟨_, _, rfl⟩
   refine aF aA z102 z102 z102 200 [((1, 2), .v (s.h2.val s.sems.length)), ((4, 1), .v (.int .i64 op.on)), ((4, 2), .v (.int .i64 op.arg))] [12] [_] z129 z141 ⟨rfl, trivial⟩ rfl ?_
   refine bO (ti := aU tab) cZ aA rfl rfl rfl rfl rfl ⟨rfl, rfl⟩ (aL 0 rfl (.trans (.R_R (bU s)) (.ofR aX))) op.on.toNat hi.symm z43 (fun ad5 => ?_)
   refine BothW.mk ?_ ?_
   all_goals
     refine bN _ cl68 rfl rfl rfl rfl ⟨rfl, rfl⟩ (fun A w hW => hN0 _ _ _ _ w ⟨hW.get 12 rfl (.trans (.R_R (bU s)) (.ofR (iV _ _ op.on.toNat hil))), trivial⟩ ok r.thr hq a1 a2) ?_
     rw [hac]
     rintro v L ⟨q1, rfl, rfl⟩
     refine gG 3 rfl (show 0 < y.sems.length by omega) fun gg hgg _ _ => ?_
     refine aF aA z102 z102 z102 200 [((3, 7), .v (y.h2.val y.sems.length)), ((4, 1), .v (.int .i64 op.on)), ((5, 0), .v (.int .i64 (x1).free)), ((5, 1), .v (.int .i64 (x1).limit)), ((5, 2), .v (q1.val (x1).queue.length))] [] [] z117 z133 trivial rfl ?_
     refine jO (ti := aU tab) aA rfl rfl rfl rfl rfl ⟨rfl, rfl⟩ hgg op.on.toNat hi.symm hjl ?_
     refine gH (ti := aU tab) cZ 3 aA rfl rfl rfl rfl rfl rfl rfl rfl hgg op.on.toNat 0 ⟨x1, q1⟩ rfl hjl rfl (gI ⟨x1, q1⟩) (fun _ => rfl) z74 z100 ?_
     refine cF _ [2, 3] (G := [_, _]) iY0 rfl rfl rfl rfl ⟨rfl, rfl⟩ rfl rfl ⟨rfl, rfl, trivial⟩ ⟨rfl, rfl, rfl, rfl, trivial⟩ (fun A w ga hga hW hblk => (qF ga _ _ p y _ _ k (b1) (y.pure) w hblk (hW.atG [2, 3] (G := [_, _]) ⟨rfl, rfl, trivial⟩ rfl ⟨rfl, rfl, rfl, rfl, trivial⟩ [10] (Fo := [_]) z148 rfl) (hW.atG_off z103 hga (ix := [2, 3]) (G := [_, _]) ⟨rfl, rfl, trivial⟩ (jx := [10]) (Fo := [_]) z148) rfl rfl hnm hn hkn hpA hn4)) ?_
     rintro v cs L ⟨rfl, rfl, rfl⟩
     have hlp : (cC p.pure (y.pure) k (b1)).places.length = y.places.length := ((eW _ _ _ _).1.trans rfl)
     have hls : (cC p.pure (y.pure) k (b1)).status.length = y.status.length := ((eW _ _ _ _).2.trans rfl)
     refine CaseB.mk (fun g => by cases g) (fun _ => ?_)
     obtain ⟨y9, hy9⟩ : ∃ y9 : StateH, y9 = ⟨(cC p.pure (y.pure) k (b1)).places, (cC p.pure (y.pure) k (b1)).status, (y.sems.set op.on.toNat ⟨x1, q1⟩), y.onces, y.groups, y.barriers, y.chans, y.said, y.fault, y.h0, y.h1, y.h2, y.h3, y.h4, y.h5, y.h6, y.h7⟩ := ⟨_, rfl⟩
     have hP : y9.pure = doM p.pure s.pure k := by
       rw [hD, kA, hxa, hac]
       show _ = cC p.pure (setSem s.pure op x1) k b1
       rw [← hy, pC p.pure y.pure (setSem y.pure op x1) k b1 rfl rfl, hy9]
       simp only [StateH.pure, setSem, List.map_set]
     have h64 : (doM p.pure s.pure k).said.length ≤ 64 := by
       rw [← hP, hy9]
       exact hsd
     have hok : StepOk p.pure s.pure k := hso.2 ⟨h64, hwn (by omega)⟩
     have hsm : y9.pure.small20 := by rw [hP]; exact hok.2.2.2.small
     have hv : aM y9 = aM y := by
       rw [hy9]; simp only [aM, hlp, hls, List.length_set]
     have hcl := fun w h => cO y9 w h hsm
     rw [hv] at hcl
     refine aB _ pJ rfl rfl rfl rfl ⟨rfl, rfl⟩ (fun A w hW => hcl w ⟨sE hW (jV y9 (by rw [hy9]; exact fT 0 1 2 4 5 6 7 8 rfl rfl rfl rfl rfl rfl rfl rfl) (by rw [hy9]; exact fun g hg => (oL hg).elim (fun h => inO 9 rfl h) (fun h => by obtain rfl := List.mem_singleton.1 h; exact inF (List.mem_of_getElem? (i := 3) rfl)))), trivial⟩) ?_
     rintro v L ⟨y3, rfl, hy3, rfl⟩
     exact bG [0] ⟨y3, true, rfl, jS hok, fun _ => hy3.trans hP, fun e => z105, rfl⟩ z144 rfl ⟨rfl, trivial⟩ (fun _ => rfl)
 refine CaseB.mk (fun g => ?_) (fun g3 => ?_)
 · have hk : op.kind = 3 := by simpa using g
   obtain ⟨x, hx, hxa, ok, a1, a2, hi⟩ := r.sem (.inr hk)
   have hil : op.on.toNat < s.sems.length := by have := (List.getElem?_eq_some_iff.1 hx).1; simpa [StateH.pure] using this
   have hxe : (s.sems[op.on.toNat]'hil).m = x := by have := hx; simp only [StateH.pure, List.getElem?_map, List.getElem?_eq_getElem hil, Option.map_some, Option.some.injEq] at this; exact this
   subst hxe
   have hjl : op.on.toNat < y.sems.length := by have := congrArg List.length hy2; simp at this; omega
   have hnq := fun u (h : aN (bH s.pure) u = []) => (kX hx (s.sems[op.on.toNat]).m).none h
   have hD : doM p.pure s.pure k = iY p.pure s.pure k op := by rw [hdm, dD, if_neg (by omega), if_neg (by omega), if_pos hk]
   rcases hres : (s.sems[op.on.toNat]'hil).m.release op.arg with _ | ⟨x1, told⟩
   · have hF : doM p.pure s.pure k = gK s.pure 1 := by rw [hD, iY, hxa, hres]
     refine aF aA z102 z102 z102 200 [((1, 2), .v (s.h2.val s.sems.length)), ((4, 1), .v (.int .i64 op.on)), ((4, 2), .v (.int .i64 op.arg))] [12] [_] z129 z141 ⟨rfl, trivial⟩ rfl ?_
     refine bO (ti := aU tab) cZ aA rfl rfl rfl rfl rfl ⟨rfl, rfl⟩ (aL 0 rfl (.trans (.R_R (bU s)) (.ofR aX))) op.on.toNat hi.symm z43 (fun ad5 => ?_)
     refine BothW.mk ?_ ?_
     all_goals
       refine bN _ cl70 rfl rfl rfl rfl ⟨rfl, rfl⟩ (fun A w hW => zI _ _ _ w ⟨hW.get 12 rfl (.trans (.R_R (bU s)) (.ofR (iV _ _ op.on.toNat hil))), trivial⟩ ok a1 a2) ?_
       rw [hres]
       rintro v L ⟨q1, z1, rfl, rfl⟩
       refine CaseB.mk (fun _ => ?_) (fun g => by simp at g)
       have hok : StepOk p.pure s.pure k := hso.2 ⟨by rw [hF]; exact ft.lsaid, hwn (by omega)⟩
       refine eG _ [] (G := []) mD0 rfl rfl rfl rfl ⟨rfl, rfl⟩ rfl rfl trivial trivial (fun A w ga hga hW hblk => wG 1 ga s w hblk (hW.atG [] (G := []) trivial rfl trivial [12] (Fo := [_]) z132 rfl) (hW.atG_off z103 hga (ix := []) (G := []) trivial (jx := [12]) (Fo := [_]) z132) hs) ?_
       rintro v cs L ⟨y3, rfl, rfl, hy3, rfl⟩
       exact bG [0] ⟨y3, true, rfl, jS hok, fun _ => hy3.trans hF.symm, fun e => z105, rfl⟩ z144 rfl ⟨rfl, trivial⟩ (fun _ => rfl)
   have htin := tN ok a1 hres
   have htl : told.length ≤ 100 := by omega
   have htold : ∀ u ∈ told, 0 ≤ u ∧ u < (y.places.length : Int) := fun u hu => by
     have := ft.isIn fun h0 => bC.1 (hnq u h0) (htin.1 u hu)
     rw [lt] at this
     omega
   refine aF aA z102 z102 z102 200 [((1, 2), .v (s.h2.val s.sems.length)), ((4, 1), .v (.int .i64 op.on)), ((4, 2), .v (.int .i64 op.arg))] [12] [_] z129 z141 ⟨rfl, trivial⟩ rfl ?_
   refine bO (ti := aU tab) cZ aA rfl rfl rfl rfl rfl ⟨rfl, rfl⟩ (aL 0 rfl (.trans (.R_R (bU s)) (.ofR aX))) op.on.toNat hi.symm z43 (fun ad5 => ?_)
   refine BothW.mk ?_ ?_
   all_goals
     refine bN _ cl70 rfl rfl rfl rfl ⟨rfl, rfl⟩ (fun A w hW => zI _ _ _ w ⟨hW.get 12 rfl (.trans (.R_R (bU s)) (.ofR (iV _ _ op.on.toNat hil))), trivial⟩ ok a1 a2) ?_
     rw [hres]
     rintro v L ⟨q1, z1, rfl, rfl⟩
     refine CaseB.mk (fun g => by simp at g) (fun _ => ?_)
     refine gG 4 rfl (show 0 < y.sems.length by omega) fun gg hgg _ _ => ?_
     refine aF aA z102 z102 z102 200 [((3, 7), .v (y.h2.val y.sems.length)), ((4, 1), .v (.int .i64 op.on)), ((5, 0), .v (.int .i64 (x1).free)), ((5, 1), .v (.int .i64 (x1).limit)), ((5, 2), .v (q1.val (x1).queue.length))] [] [] z117 z133 trivial rfl ?_
     refine jO (ti := aU tab) aA rfl rfl rfl rfl rfl ⟨rfl, rfl⟩ hgg op.on.toNat hi.symm hjl ?_
     refine gH (ti := aU tab) cZ 4 aA rfl rfl rfl rfl rfl rfl rfl rfl hgg op.on.toNat 0 ⟨x1, q1⟩ rfl hjl rfl (gI ⟨x1, q1⟩) (fun _ => rfl) z74 z100 ?_
     refine cF _ [3, 4] (G := [_, _]) rT rfl rfl rfl rfl ⟨rfl, rfl⟩ rfl rfl ⟨rfl, rfl, trivial⟩ ⟨rfl, rfl, rfl, rfl, trivial⟩ (fun A w ga hga hW hblk => (jU ga _ _ p y _ _ _ told (y.pure) w hblk (hW.atG [3, 4] (G := [_, _]) ⟨rfl, rfl, trivial⟩ rfl ⟨rfl, rfl, rfl, rfl, trivial⟩ [11, 2] (Fo := [_, _]) z142 rfl) (hW.atG_off z103 hga (ix := [3, 4]) (G := [_, _]) ⟨rfl, rfl, trivial⟩ (jx := [11, 2]) (Fo := [_, _]) z142) rfl rfl hnm hn htold htl hpA hn4)) ?_
     rintro v cs L ⟨rfl, rfl, rfl⟩
     refine AllSl.mk fun zt => ?_
     refine cF _ [1, 2] (G := [_, _]) rT rfl rfl rfl rfl ⟨rfl, rfl⟩ rfl rfl ⟨rfl, rfl, trivial⟩ ⟨rfl, rfl, rfl, rfl, trivial⟩ (fun A w ga hga hW hblk => (jU ga _ _ p y _ _ zt [(k : Int)] (onM p.pure told (y.pure)) w hblk (hW.atG [1, 2] (G := [_, _]) ⟨rfl, rfl, trivial⟩ rfl ⟨rfl, rfl, rfl, rfl, trivial⟩ [12, 0] (Fo := [_, _]) z142 rfl) (hW.atG_off z103 hga (ix := [1, 2]) (G := [_, _]) ⟨rfl, rfl, trivial⟩ (jx := [12, 0]) (Fo := [_, _]) z142) ((aT _ _ _).1.trans rfl) ((aT _ _ _).2.trans rfl) hnm hn hw1 (by simp) (fun x hx => by have := hZ p.pure told y.pure 20 (by omega) hp0 x hx; omega) hn4)) ?_
     rintro v cs L ⟨rfl, rfl, rfl⟩
     have hlp : (onM p.pure [(k : Int)] (onM p.pure told (y.pure))).places.length = y.places.length := ((aT _ _ _).1.trans ((aT _ _ _).1.trans rfl))
     have hls : (onM p.pure [(k : Int)] (onM p.pure told (y.pure))).status.length = y.status.length := ((aT _ _ _).2.trans ((aT _ _ _).2.trans rfl))
     refine CaseB.mk (fun g => by cases g) (fun _ => ?_)
     obtain ⟨y9, hy9⟩ : ∃ y9 : StateH, y9 = ⟨(onM p.pure [(k : Int)] (onM p.pure told (y.pure))).places, (onM p.pure [(k : Int)] (onM p.pure told (y.pure))).status, (y.sems.set op.on.toNat ⟨x1, q1⟩), y.onces, y.groups, y.barriers, y.chans, y.said, y.fault, y.h0, y.h1, y.h2, y.h3, y.h4, y.h5, y.h6, y.h7⟩ := ⟨_, rfl⟩
     have hP : y9.pure = doM p.pure s.pure k := by
       rw [hD, iY, hxa, hres]
       show _ = onM p.pure (told ++ [(k : Int)]) (setSem s.pure op x1)
       rw [← hy, eU p.pure (told ++ [(k : Int)]) y.pure (setSem y.pure op x1) rfl rfl, qY, hy9]
       simp only [StateH.pure, setSem, List.map_set]
     have h64 : (doM p.pure s.pure k).said.length ≤ 64 := by
       rw [← hP, hy9]
       exact hsd
     have hok : StepOk p.pure s.pure k := hso.2 ⟨h64, hwn (by omega)⟩
     have hsm : y9.pure.small20 := by rw [hP]; exact hok.2.2.2.small
     have hv : aM y9 = aM y := by
       rw [hy9]; simp only [aM, hlp, hls, List.length_set]
     have hcl := fun w h => cO y9 w h hsm
     rw [hv] at hcl
     refine aB _ pJ rfl rfl rfl rfl ⟨rfl, rfl⟩ (fun A w hW => hcl w ⟨sE hW (jV y9 (by rw [hy9]; exact fT 0 1 3 6 7 8 9 10 rfl rfl rfl rfl rfl rfl rfl rfl) (by rw [hy9]; exact fun g hg => (oL hg).elim (fun h => inO 11 rfl h) (fun h => by obtain rfl := List.mem_singleton.1 h; exact inF (List.mem_of_getElem? (i := 4) rfl)))), trivial⟩) ?_
     rintro v L ⟨y3, rfl, hy3, rfl⟩
     exact bG [0] ⟨y3, true, rfl, jS hok, fun _ => hy3.trans hP, fun e => z105, rfl⟩ z144 rfl ⟨rfl, trivial⟩ (fun _ => rfl)
 refine CaseB.mk (fun g => ?_) (fun g4 => ?_)
 · have hk : op.kind = 4 := by simpa using g
   obtain ⟨x, hx, hxa, ok, hval, hi⟩ := r.once hk
   have hil : op.on.toNat < s.onces.length := by have := (List.getElem?_eq_some_iff.1 hx).1; simpa [StateH.pure] using this
   have hxe : (s.onces[op.on.toNat]'hil).m = x := by have := hx; simp only [StateH.pure, List.getElem?_map, List.getElem?_eq_getElem hil, Option.map_some, Option.some.injEq] at this; exact this
   subst hxe
   have hjl : op.on.toNat < y.onces.length := by have := congrArg List.length hy3; simp at this; omega
   have hnq := fun u (h : aN (bH s.pure) u = []) => (pA hx (s.onces[op.on.toNat]).m).none h
   have hD : doM p.pure s.pure k = kY p.pure s.pure k op := by rw [hdm, dD, if_neg (by omega), if_neg (by omega), if_neg (by omega), if_pos hk]
   have hq : (k : Int) ∉ (s.onces[op.on.toNat]'hil).m.waits := by simpa using (bC (g := fun t : Int => t)).1 (hnq _ r.ev)
   have hst : s.pure.status.getD (k : Int).toNat 0 = st := by rw [Int.toNat_natCast, List.getD_eq_getElem?_getD, r.h3]; rfl
   have hst2 : s.status[k] = st := (List.getElem?_eq_some_iff.1 r.h3).2
   refine aG aE aA rfl rfl rfl rfl rfl ⟨rfl, rfl⟩ (aL 12 rfl (.ofR (cS s))) k rfl z43 (fun ad6 => ?_)
   apply CaseB.mk <;> intro g
   · have h2 : st = 2 := by rw [← hst2]; simpa using g
     obtain ⟨w1, w2⟩ := r.owner hx hi h2
     obtain ⟨x1, told, hres⟩ : ∃ x1 told, (s.onces[op.on.toNat]'hil).m.finish k op.arg = (x1, told) := ⟨_, _, rfl⟩
     have hte : told = (s.onces[op.on.toNat]'hil).m.waits := by have := hres; simp only [Once.finish, Prod.mk.injEq] at this; exact this.2.symm
     have htin := (⟨hte.symm, by rw [hte]; exact eZ ok⟩ : (s.onces[op.on.toNat]'hil).m.waits = told ∧ told.length ≤ 6)
     have htl : told.length ≤ 100 := by omega
     have htold : ∀ u ∈ told, 0 ≤ u ∧ u < (y.places.length : Int) := fun u hu => by
       have := ft.isIn fun h0 => (bC (g := fun t : Int => t)).1 (hnq u h0) (by rw [← htin.1] at *; simpa using hu)
       rw [lt] at this
       omega
     refine aF aA z102 z102 z102 200 [((1, 3), .v (s.h3.val s.onces.length)), ((4, 1), .v (.int .i64 op.on)), ((4, 2), .v (.int .i64 op.arg))] [12] [_] z129 z141 ⟨rfl, trivial⟩ rfl ?_
     refine bO (ti := aU tab) cX aA rfl rfl rfl rfl rfl ⟨rfl, rfl⟩ (aL 0 rfl (.trans (.R_R (bW s)) (.ofR aX))) op.on.toNat hi.symm z43 (fun ad5 => ?_)
     refine BothW.mk ?_ ?_
     all_goals
       refine bN _ cl71 rfl rfl rfl rfl ⟨rfl, rfl⟩ (fun A w hW => kK0 _ _ _ _ w ⟨hW.get 12 rfl (.trans (.R_R (bW s)) (.ofR (hC _ _ op.on.toNat hil))), trivial⟩ ok w1 w2 hval) ?_
       rw [hres]
       rintro v L ⟨q1, z1, rfl, rfl⟩
       refine gG 5 rfl (show 0 < y.onces.length by omega) fun gg hgg _ _ => ?_
       refine aF aA z102 z102 z102 200 [((3, 8), .v (y.h3.val y.onces.length)), ((4, 1), .v (.int .i64 op.on)), ((5, 0), .v (.int .i64 (x1).state)), ((5, 1), .v (.int .i64 (x1).owner)), ((5, 2), .v (.int .i64 (x1).value)), ((5, 3), .v (q1.val (x1).waits.length))] [] [] z114 z130 trivial rfl ?_
       refine jO (ti := aU tab) aA rfl rfl rfl rfl rfl ⟨rfl, rfl⟩ hgg op.on.toNat hi.symm hjl ?_
       refine gH (ti := aU tab) cX 5 aA rfl rfl rfl rfl rfl rfl rfl rfl hgg op.on.toNat 0 ⟨x1, q1⟩ rfl hjl rfl (eD ⟨x1, q1⟩) (fun _ => rfl) z74 z100 ?_
       refine cF _ [3, 4] (G := [_, _]) rT rfl rfl rfl rfl ⟨rfl, rfl⟩ rfl rfl ⟨rfl, rfl, trivial⟩ ⟨rfl, rfl, rfl, rfl, trivial⟩ (fun A w ga hga hW hblk => (jU ga _ _ p y _ _ _ told (y.pure) w hblk (hW.atG [3, 4] (G := [_, _]) ⟨rfl, rfl, trivial⟩ rfl ⟨rfl, rfl, rfl, rfl, trivial⟩ [11, 2] (Fo := [_, _]) z142 rfl) (hW.atG_off z103 hga (ix := [3, 4]) (G := [_, _]) ⟨rfl, rfl, trivial⟩ (jx := [11, 2]) (Fo := [_, _]) z142) rfl rfl hnm hn htold htl hpA hn4)) ?_
       rintro v cs L ⟨rfl, rfl, rfl⟩
       refine AllSl.mk fun zt => ?_
       refine cF _ [1, 2] (G := [_, _]) rT rfl rfl rfl rfl ⟨rfl, rfl⟩ rfl rfl ⟨rfl, rfl, trivial⟩ ⟨rfl, rfl, rfl, rfl, trivial⟩ (fun A w ga hga hW hblk => (jU ga _ _ p y _ _ zt [(k : Int)] (onM p.pure told (y.pure)) w hblk (hW.atG [1, 2] (G := [_, _]) ⟨rfl, rfl, trivial⟩ rfl ⟨rfl, rfl, rfl, rfl, trivial⟩ [12, 0] (Fo := [_, _]) z142 rfl) (hW.atG_off z103 hga (ix := [1, 2]) (G := [_, _]) ⟨rfl, rfl, trivial⟩ (jx := [12, 0]) (Fo := [_, _]) z142) ((aT _ _ _).1.trans rfl) ((aT _ _ _).2.trans rfl) hnm hn hw1 (by simp) (fun x hx => by have := hZ p.pure told y.pure 20 (by omega) hp0 x hx; omega) hn4)) ?_
       rintro v cs L ⟨rfl, rfl, rfl⟩
       have hlp : (onM p.pure [(k : Int)] (onM p.pure told (y.pure))).places.length = y.places.length := ((aT _ _ _).1.trans ((aT _ _ _).1.trans rfl))
       have hls : (onM p.pure [(k : Int)] (onM p.pure told (y.pure))).status.length = y.status.length := ((aT _ _ _).2.trans ((aT _ _ _).2.trans rfl))
       refine CaseB.mk (fun g => by cases g) (fun _ => ?_)
       obtain ⟨y9, hy9⟩ : ∃ y9 : StateH, y9 = ⟨(onM p.pure [(k : Int)] (onM p.pure told (y.pure))).places, (onM p.pure [(k : Int)] (onM p.pure told (y.pure))).status, y.sems, (y.onces.set op.on.toNat ⟨x1, q1⟩), y.groups, y.barriers, y.chans, y.said, y.fault, y.h0, y.h1, y.h2, y.h3, y.h4, y.h5, y.h6, y.h7⟩ := ⟨_, rfl⟩
       have hP : y9.pure = doM p.pure s.pure k := by
         rw [hD, kY, hst, if_pos h2, hxa, hres]
         show _ = onM p.pure (told ++ [(k : Int)]) (setOnce s.pure op x1)
         rw [← hy, eU p.pure (told ++ [(k : Int)]) y.pure (setOnce y.pure op x1) rfl rfl, qY, hy9]
         simp only [StateH.pure, setOnce, List.map_set]
       have h64 : (doM p.pure s.pure k).said.length ≤ 64 := by
         rw [← hP, hy9]
         exact hsd
       have hok : StepOk p.pure s.pure k := hso.2 ⟨h64, hwn (by omega)⟩
       have hsm : y9.pure.small20 := by rw [hP]; exact hok.2.2.2.small
       have hv : aM y9 = aM y := by
         rw [hy9]; simp only [aM, hlp, hls, List.length_set]
       have hcl := fun w h => cO y9 w h hsm
       rw [hv] at hcl
       refine aB _ pJ rfl rfl rfl rfl ⟨rfl, rfl⟩ (fun A w hW => hcl w ⟨sE hW (jV y9 (by rw [hy9]; exact fT 0 1 6 3 7 8 9 10 rfl rfl rfl rfl rfl rfl rfl rfl) (by rw [hy9]; exact fun g hg => (lA hg).elim (fun h => inO 11 rfl h) (fun h => by obtain rfl := List.mem_singleton.1 h; exact inF (List.mem_of_getElem? (i := 4) rfl)))), trivial⟩) ?_
       rintro v L ⟨y3, rfl, hy3, rfl⟩
       exact bG [0] ⟨y3, true, rfl, jS hok, fun _ => hy3.trans hP, fun e => z105, rfl⟩ z144 rfl ⟨rfl, trivial⟩ (fun _ => rfl)
   have h2 : ¬ st = 2 := by rw [← hst2]; simpa using g
   obtain ⟨x1, c1, hres⟩ : ∃ x1 c1, (s.onces[op.on.toNat]'hil).m.enter k = (x1, c1) := ⟨_, _, rfl⟩
   refine aG cX aA rfl rfl rfl rfl rfl ⟨rfl, rfl⟩ (aL 12 rfl (.trans (.R_R (bW s)) (.ofR aX))) op.on.toNat hi.symm z43 (fun ad5 => ?_)
   refine aB _ cl72 rfl rfl rfl rfl ⟨rfl, rfl⟩ (fun A w hW => mO0 _ _ _ w ⟨hW.get 12 rfl (.trans (.R_R (bW s)) (.ofR (hC _ _ op.on.toNat hil))), trivial⟩ ok r.thr hq (r.stranger hx h2)) ?_
   rw [hres]
   rintro v L ⟨q1, rfl, rfl⟩
   refine gG 4 rfl (show 0 < y.onces.length by omega) fun gg hgg _ _ => ?_
   refine aF aA z102 z102 z102 200 [((3, 8), .v (y.h3.val y.onces.length)), ((4, 1), .v (.int .i64 op.on)), ((5, 0), .v (.int .i64 (x1).state)), ((5, 1), .v (.int .i64 (x1).owner)), ((5, 2), .v (.int .i64 (x1).value)), ((5, 3), .v (q1.val (x1).waits.length))] [] [] z114 z130 trivial rfl ?_
   refine jO (ti := aU tab) aA rfl rfl rfl rfl rfl ⟨rfl, rfl⟩ hgg op.on.toNat hi.symm hjl ?_
   refine gH (ti := aU tab) cX 4 aA rfl rfl rfl rfl rfl rfl rfl rfl hgg op.on.toNat 0 ⟨x1, q1⟩ rfl hjl rfl (eD ⟨x1, q1⟩) (fun _ => rfl) z74 z100 ?_
   apply CaseB.mk <;> intro g
   · have e0 : c1 = 0 := by simpa using g
     refine cP aE 3 aA rfl rfl rfl rfl rfl ⟨rfl, rfl⟩ rfl (rfl).symm k rfl (by omega) (fun gs hgs => ?_)
     refine bS aE 3 aA rfl rfl rfl rfl rfl rfl rfl rfl hgs k 0 2 rfl (by omega) rfl [.int .i64 2] (fun _ => rfl) rfl ?_
     have hlp : (bE (y.pure) k 2).places.length = y.places.length := rfl
     have hls : (bE (y.pure) k 2).status.length = y.status.length := ((List.length_set ..).trans rfl)
     refine CaseB.mk (fun g => by cases g) (fun _ => ?_)
     obtain ⟨y9, hy9⟩ : ∃ y9 : StateH, y9 = ⟨(bE (y.pure) k 2).places, (bE (y.pure) k 2).status, y.sems, (y.onces.set op.on.toNat ⟨x1, q1⟩), y.groups, y.barriers, y.chans, y.said, y.fault, y.h0, y.h1, y.h2, y.h3, y.h4, y.h5, y.h6, y.h7⟩ := ⟨_, rfl⟩
     have hP : y9.pure = doM p.pure s.pure k := by
       rw [hD, kY, hst, if_neg h2, hxa, hres]
       show _ = if c1 = 0 then bE (setOnce s.pure op x1) k 2 else if c1 = 1 then bE (setOnce s.pure op x1) k 1 else onM p.pure [(k : Int)] (setOnce s.pure op x1)
       rw [if_pos e0, ← hy, hy9]
       simp only [StateH.pure, setOnce, List.map_set, bE]
     have h64 : (doM p.pure s.pure k).said.length ≤ 64 := by
       rw [← hP, hy9]
       exact hsd
     have hok : StepOk p.pure s.pure k := hso.2 ⟨h64, hwn (by omega)⟩
     have hsm : y9.pure.small20 := by rw [hP]; exact hok.2.2.2.small
     have hv : aM y9 = aM y := by
       rw [hy9]; simp only [aM, hlp, hls, List.length_set]
     have hcl := fun w h => cO y9 w h hsm
     rw [hv] at hcl
     refine aB _ pJ rfl rfl rfl rfl ⟨rfl, rfl⟩ (fun A w hW => hcl w ⟨sE hW (jV y9 z64 z41), trivial⟩) ?_
     rintro v L ⟨y3, rfl, hy3, rfl⟩
     exact bG [0] ⟨y3, true, rfl, jS hok, fun _ => hy3.trans hP, fun e => z105, rfl⟩ z144 rfl ⟨rfl, trivial⟩ (fun _ => rfl)
   have e0 : ¬ c1 = 0 := by simpa using g
   apply CaseB.mk <;> intro g
   · have e1 : c1 = 1 := by simpa using g
     refine cP aE 3 aA rfl rfl rfl rfl rfl ⟨rfl, rfl⟩ rfl (rfl).symm k rfl (by omega) (fun gs hgs => ?_)
     refine bS aE 3 aA rfl rfl rfl rfl rfl rfl rfl rfl hgs k 0 1 rfl (by omega) rfl [.int .i64 1] (fun _ => rfl) rfl ?_
     have hlp : (bE (y.pure) k 1).places.length = y.places.length := rfl
     have hls : (bE (y.pure) k 1).status.length = y.status.length := ((List.length_set ..).trans rfl)
     refine CaseB.mk (fun g => by cases g) (fun _ => ?_)
     obtain ⟨y9, hy9⟩ : ∃ y9 : StateH, y9 = ⟨(bE (y.pure) k 1).places, (bE (y.pure) k 1).status, y.sems, (y.onces.set op.on.toNat ⟨x1, q1⟩), y.groups, y.barriers, y.chans, y.said, y.fault, y.h0, y.h1, y.h2, y.h3, y.h4, y.h5, y.h6, y.h7⟩ := ⟨_, rfl⟩
     have hP : y9.pure = doM p.pure s.pure k := by
       rw [hD, kY, hst, if_neg h2, hxa, hres]
       show _ = if c1 = 0 then bE (setOnce s.pure op x1) k 2 else if c1 = 1 then bE (setOnce s.pure op x1) k 1 else onM p.pure [(k : Int)] (setOnce s.pure op x1)
       rw [if_neg e0, if_pos e1, ← hy, hy9]
       simp only [StateH.pure, setOnce, List.map_set, bE]
     have h64 : (doM p.pure s.pure k).said.length ≤ 64 := by
       rw [← hP, hy9]
       exact hsd
     have hok : StepOk p.pure s.pure k := hso.2 ⟨h64, hwn (by omega)⟩
     have hsm : y9.pure.small20 := by rw [hP]; exact hok.2.2.2.small
     have hv : aM y9 = aM y := by
       rw [hy9]; simp only [aM, hlp, hls, List.length_set]
     have hcl := fun w h => cO y9 w h hsm
     rw [hv] at hcl
     refine aB _ pJ rfl rfl rfl rfl ⟨rfl, rfl⟩ (fun A w hW => hcl w ⟨sE hW (jV y9 z64 z41), trivial⟩) ?_
     rintro v L ⟨y3, rfl, hy3, rfl⟩
     exact bG [0] ⟨y3, true, rfl, jS hok, fun _ => hy3.trans hP, fun e => z105, rfl⟩ z144 rfl ⟨rfl, trivial⟩ (fun _ => rfl)
   have e1 : ¬ c1 = 1 := by simpa using g
   refine AllSl.mk fun zt => ?_
   refine cF _ [3, 4] (G := [_, _]) rT rfl rfl rfl rfl ⟨rfl, rfl⟩ rfl rfl ⟨rfl, rfl, trivial⟩ ⟨rfl, rfl, rfl, rfl, trivial⟩ (fun A w ga hga hW hblk => (jU ga _ _ p y _ _ zt [(k : Int)] (y.pure) w hblk (hW.atG [3, 4] (G := [_, _]) ⟨rfl, rfl, trivial⟩ rfl ⟨rfl, rfl, rfl, rfl, trivial⟩ [11, 0] (Fo := [_, _]) z142 rfl) (hW.atG_off z103 hga (ix := [3, 4]) (G := [_, _]) ⟨rfl, rfl, trivial⟩ (jx := [11, 0]) (Fo := [_, _]) z142) rfl rfl hnm hn hw1 (by simp) hpA hn4)) ?_
   rintro v cs L ⟨rfl, rfl, rfl⟩
   have hlp : (onM p.pure [(k : Int)] (y.pure)).places.length = y.places.length := ((aT _ _ _).1.trans rfl)
   have hls : (onM p.pure [(k : Int)] (y.pure)).status.length = y.status.length := ((aT _ _ _).2.trans rfl)
   refine CaseB.mk (fun g => by cases g) (fun _ => ?_)
   obtain ⟨y9, hy9⟩ : ∃ y9 : StateH, y9 = ⟨(onM p.pure [(k : Int)] (y.pure)).places, (onM p.pure [(k : Int)] (y.pure)).status, y.sems, (y.onces.set op.on.toNat ⟨x1, q1⟩), y.groups, y.barriers, y.chans, y.said, y.fault, y.h0, y.h1, y.h2, y.h3, y.h4, y.h5, y.h6, y.h7⟩ := ⟨_, rfl⟩
   have hP : y9.pure = doM p.pure s.pure k := by
     rw [hD, kY, hst, if_neg h2, hxa, hres]
     show _ = if c1 = 0 then bE (setOnce s.pure op x1) k 2 else if c1 = 1 then bE (setOnce s.pure op x1) k 1 else onM p.pure [(k : Int)] (setOnce s.pure op x1)
     rw [if_neg e0, if_neg e1, ← hy, eU p.pure [(k : Int)] y.pure (setOnce y.pure op x1) rfl rfl, hy9]
     simp only [StateH.pure, setOnce, List.map_set]
   have h64 : (doM p.pure s.pure k).said.length ≤ 64 := by
     rw [← hP, hy9]
     exact hsd
   have hok : StepOk p.pure s.pure k := hso.2 ⟨h64, hwn (by omega)⟩
   have hsm : y9.pure.small20 := by rw [hP]; exact hok.2.2.2.small
   have hv : aM y9 = aM y := by
     rw [hy9]; simp only [aM, hlp, hls, List.length_set]
   have hcl := fun w h => cO y9 w h hsm
   rw [hv] at hcl
   refine aB _ pJ rfl rfl rfl rfl ⟨rfl, rfl⟩ (fun A w hW => hcl w ⟨sE hW (jV y9 z65 (by rw [hy9]; exact fun g hg => (lA hg).elim (fun h => inO 10 rfl h) (fun h => by obtain rfl := List.mem_singleton.1 h; exact inF (List.mem_of_getElem? (i := 4) rfl)))), trivial⟩) ?_
   rintro v L ⟨y3, rfl, hy3, rfl⟩
   exact bG [0] ⟨y3, true, rfl, jS hok, fun _ => hy3.trans hP, fun e => z105, rfl⟩ z144 rfl ⟨rfl, trivial⟩ (fun _ => rfl)
 refine CaseB.mk (fun g => ?_) (fun g5 => ?_)
 · have hk : op.kind = 5 := by simpa using g
   obtain ⟨x, hx, hxa, ok, ha, hi⟩ := r.group (.inl hk)
   have hil : op.on.toNat < s.groups.length := by have := (List.getElem?_eq_some_iff.1 hx).1; simpa [StateH.pure] using this
   have hxe : (s.groups[op.on.toNat]'hil).m = x := by have := hx; simp only [StateH.pure, List.getElem?_map, List.getElem?_eq_getElem hil, Option.map_some, Option.some.injEq] at this; exact this
   subst hxe
   have hjl : op.on.toNat < y.groups.length := by have := congrArg List.length hy4; simp at this; omega
   have hnq := fun u (h : aN (bH s.pure) u = []) => (iN hx (s.groups[op.on.toNat]).m).none h
   have hD : doM p.pure s.pure k = tJ p.pure s.pure k op := by rw [hdm, dD, if_neg (by omega), if_neg (by omega), if_neg (by omega), if_neg (by omega), if_pos hk]
   rcases hres : (s.groups[op.on.toNat]'hil).m.add op.arg with _ | ⟨x1, told⟩
   · have hF : doM p.pure s.pure k = gK s.pure 2 := by rw [hD, tJ, hxa, hres]
     refine aF aA z102 z102 z102 200 [((1, 4), .v (s.h4.val s.groups.length)), ((4, 1), .v (.int .i64 op.on)), ((4, 2), .v (.int .i64 op.arg))] [12] [_] z129 z141 ⟨rfl, trivial⟩ rfl ?_
     refine bO (ti := aU tab) cI aA rfl rfl rfl rfl rfl ⟨rfl, rfl⟩ (aL 0 rfl (.trans (.R_R (bL s)) (.ofR aX))) op.on.toNat hi.symm z43 (fun ad5 => ?_)
     refine BothW.mk ?_ ?_
     all_goals
       refine bN _ cl73 rfl rfl rfl rfl ⟨rfl, rfl⟩ (fun A w hW => oB0 _ _ _ w ⟨hW.get 12 rfl (.trans (.R_R (bL s)) (.ofR (eK _ _ op.on.toNat hil))), trivial⟩ ok (ha hk).1 (ha hk).2) ?_
       rw [hres]
       rintro v L ⟨q1, z1, rfl, rfl⟩
       refine CaseB.mk (fun _ => ?_) (fun g => by simp at g)
       have hok : StepOk p.pure s.pure k := hso.2 ⟨by rw [hF]; exact ft.lsaid, hwn (by omega)⟩
       refine eG _ [] (G := []) mD0 rfl rfl rfl rfl ⟨rfl, rfl⟩ rfl rfl trivial trivial (fun A w ga hga hW hblk => wG 2 ga s w hblk (hW.atG [] (G := []) trivial rfl trivial [12] (Fo := [_]) z132 rfl) (hW.atG_off z103 hga (ix := []) (G := []) trivial (jx := [12]) (Fo := [_]) z132) hs) ?_
       rintro v cs L ⟨y3, rfl, rfl, hy3, rfl⟩
       exact bG [0] ⟨y3, true, rfl, jS hok, fun _ => hy3.trans hF.symm, fun e => z105, rfl⟩ z144 rfl ⟨rfl, trivial⟩ (fun _ => rfl)
   have htin := cU0 ok hres
   have htl : told.length ≤ 100 := by omega
   have htold : ∀ u ∈ told, 0 ≤ u ∧ u < (y.places.length : Int) := fun u hu => by
     have := ft.isIn fun h0 => (bC (g := fun t : Int => t)).1 (hnq u h0) (by simpa using htin.1 u hu)
     rw [lt] at this
     omega
   refine aF aA z102 z102 z102 200 [((1, 4), .v (s.h4.val s.groups.length)), ((4, 1), .v (.int .i64 op.on)), ((4, 2), .v (.int .i64 op.arg))] [12] [_] z129 z141 ⟨rfl, trivial⟩ rfl ?_
   refine bO (ti := aU tab) cI aA rfl rfl rfl rfl rfl ⟨rfl, rfl⟩ (aL 0 rfl (.trans (.R_R (bL s)) (.ofR aX))) op.on.toNat hi.symm z43 (fun ad5 => ?_)
   refine BothW.mk ?_ ?_
   all_goals
     refine bN _ cl73 rfl rfl rfl rfl ⟨rfl, rfl⟩ (fun A w hW => oB0 _ _ _ w ⟨hW.get 12 rfl (.trans (.R_R (bL s)) (.ofR (eK _ _ op.on.toNat hil))), trivial⟩ ok (ha hk).1 (ha hk).2) ?_
     rw [hres]
     rintro v L ⟨q1, z1, rfl, rfl⟩
     refine CaseB.mk (fun g => by simp at g) (fun _ => ?_)
     refine gG 6 rfl (show 0 < y.groups.length by omega) fun gg hgg _ _ => ?_
     refine aF aA z102 z102 z102 200 [((3, 9), .v (y.h4.val y.groups.length)), ((4, 1), .v (.int .i64 op.on)), ((5, 0), .v (.int .i64 (x1).count)), ((5, 1), .v (q1.val (x1).waits.length))] [] [] z122 z138 trivial rfl ?_
     refine jO (ti := aU tab) aA rfl rfl rfl rfl rfl ⟨rfl, rfl⟩ hgg op.on.toNat hi.symm hjl ?_
     refine gH (ti := aU tab) cI 6 aA rfl rfl rfl rfl rfl rfl rfl rfl hgg op.on.toNat 0 ⟨x1, q1⟩ rfl hjl rfl (dR ⟨x1, q1⟩) (fun _ => rfl) z74 z100 ?_
     refine cF _ [3, 4] (G := [_, _]) rT rfl rfl rfl rfl ⟨rfl, rfl⟩ rfl rfl ⟨rfl, rfl, trivial⟩ ⟨rfl, rfl, rfl, rfl, trivial⟩ (fun A w ga hga hW hblk => (jU ga _ _ p y _ _ _ told (y.pure) w hblk (hW.atG [3, 4] (G := [_, _]) ⟨rfl, rfl, trivial⟩ rfl ⟨rfl, rfl, rfl, rfl, trivial⟩ [11, 2] (Fo := [_, _]) z142 rfl) (hW.atG_off z103 hga (ix := [3, 4]) (G := [_, _]) ⟨rfl, rfl, trivial⟩ (jx := [11, 2]) (Fo := [_, _]) z142) rfl rfl hnm hn htold htl hpA hn4)) ?_
     rintro v cs L ⟨rfl, rfl, rfl⟩
     refine AllSl.mk fun zt => ?_
     refine cF _ [1, 2] (G := [_, _]) rT rfl rfl rfl rfl ⟨rfl, rfl⟩ rfl rfl ⟨rfl, rfl, trivial⟩ ⟨rfl, rfl, rfl, rfl, trivial⟩ (fun A w ga hga hW hblk => (jU ga _ _ p y _ _ zt [(k : Int)] (onM p.pure told (y.pure)) w hblk (hW.atG [1, 2] (G := [_, _]) ⟨rfl, rfl, trivial⟩ rfl ⟨rfl, rfl, rfl, rfl, trivial⟩ [12, 0] (Fo := [_, _]) z142 rfl) (hW.atG_off z103 hga (ix := [1, 2]) (G := [_, _]) ⟨rfl, rfl, trivial⟩ (jx := [12, 0]) (Fo := [_, _]) z142) ((aT _ _ _).1.trans rfl) ((aT _ _ _).2.trans rfl) hnm hn hw1 (by simp) (fun x hx => by have := hZ p.pure told y.pure 20 (by omega) hp0 x hx; omega) hn4)) ?_
     rintro v cs L ⟨rfl, rfl, rfl⟩
     have hlp : (onM p.pure [(k : Int)] (onM p.pure told (y.pure))).places.length = y.places.length := ((aT _ _ _).1.trans ((aT _ _ _).1.trans rfl))
     have hls : (onM p.pure [(k : Int)] (onM p.pure told (y.pure))).status.length = y.status.length := ((aT _ _ _).2.trans ((aT _ _ _).2.trans rfl))
     refine CaseB.mk (fun g => by cases g) (fun _ => ?_)
     obtain ⟨y9, hy9⟩ : ∃ y9 : StateH, y9 = ⟨(onM p.pure [(k : Int)] (onM p.pure told (y.pure))).places, (onM p.pure [(k : Int)] (onM p.pure told (y.pure))).status, y.sems, y.onces, (y.groups.set op.on.toNat ⟨x1, q1⟩), y.barriers, y.chans, y.said, y.fault, y.h0, y.h1, y.h2, y.h3, y.h4, y.h5, y.h6, y.h7⟩ := ⟨_, rfl⟩
     have hP : y9.pure = doM p.pure s.pure k := by
       rw [hD, tJ, hxa, hres]
       show _ = onM p.pure (told ++ [(k : Int)]) (setGroup s.pure op x1)
       rw [← hy, eU p.pure (told ++ [(k : Int)]) y.pure (setGroup y.pure op x1) rfl rfl, qY, hy9]
       simp only [StateH.pure, setGroup, List.map_set]
     have h64 : (doM p.pure s.pure k).said.length ≤ 64 := by
       rw [← hP, hy9]
       exact hsd
     have hok : StepOk p.pure s.pure k := hso.2 ⟨h64, hwn (by omega)⟩
     have hsm : y9.pure.small20 := by rw [hP]; exact hok.2.2.2.small
     have hv : aM y9 = aM y := by
       rw [hy9]; simp only [aM, hlp, hls, List.length_set]
     have hcl := fun w h => cO y9 w h hsm
     rw [hv] at hcl
     refine aB _ pJ rfl rfl rfl rfl ⟨rfl, rfl⟩ (fun A w hW => hcl w ⟨sE hW (jV y9 (by rw [hy9]; exact fT 0 1 6 7 3 8 9 10 rfl rfl rfl rfl rfl rfl rfl rfl) (by rw [hy9]; exact fun g hg => (lQ hg).elim (fun h => inO 11 rfl h) (fun h => by obtain rfl := List.mem_singleton.1 h; exact inF (List.mem_of_getElem? (i := 4) rfl)))), trivial⟩) ?_
     rintro v L ⟨y3, rfl, hy3, rfl⟩
     exact bG [0] ⟨y3, true, rfl, jS hok, fun _ => hy3.trans hP, fun e => z105, rfl⟩ z144 rfl ⟨rfl, trivial⟩ (fun _ => rfl)
 refine CaseB.mk (fun g => ?_) (fun g6 => ?_)
 · have hk : op.kind = 6 := by simpa using g
   obtain ⟨x, hx, hxa, ok, ha, hi⟩ := r.group (.inr hk)
   have hil : op.on.toNat < s.groups.length := by have := (List.getElem?_eq_some_iff.1 hx).1; simpa [StateH.pure] using this
   have hxe : (s.groups[op.on.toNat]'hil).m = x := by have := hx; simp only [StateH.pure, List.getElem?_map, List.getElem?_eq_getElem hil, Option.map_some, Option.some.injEq] at this; exact this
   subst hxe
   have hjl : op.on.toNat < y.groups.length := by have := congrArg List.length hy4; simp at this; omega
   have hnq := fun u (h : aN (bH s.pure) u = []) => (iN hx (s.groups[op.on.toNat]).m).none h
   have hD : doM p.pure s.pure k = qD p.pure s.pure k op := by rw [hdm, dD, if_neg (by omega), if_neg (by omega), if_neg (by omega), if_neg (by omega), if_neg (by omega), if_pos hk]
   have hq : (k : Int) ∉ (s.groups[op.on.toNat]'hil).m.waits := by simpa using (bC (g := fun t : Int => t)).1 (hnq _ r.ev)
   obtain ⟨x1, b1, hres⟩ : ∃ x1 b1, (s.groups[op.on.toNat]'hil).m.wait k = (x1, b1) := ⟨_, _, rfl⟩
   refine aG cI aA rfl rfl rfl rfl rfl ⟨rfl, rfl⟩ (aL 12 rfl (.trans (.R_R (bL s)) (.ofR aX))) op.on.toNat hi.symm z43 (fun ad5 => ?_)
   refine aB _ cl74 rfl rfl rfl rfl ⟨rfl, rfl⟩ (fun A w hW => pA0 _ _ _ w ⟨hW.get 12 rfl (.trans (.R_R (bL s)) (.ofR (eK _ _ op.on.toNat hil))), trivial⟩ ok r.thr hq) ?_
   rw [hres]
   rintro v L ⟨q1, rfl, rfl⟩
   refine gG 5 rfl (show 0 < y.groups.length by omega) fun gg hgg _ _ => ?_
   refine aF aA z102 z102 z102 200 [((3, 9), .v (y.h4.val y.groups.length)), ((4, 1), .v (.int .i64 op.on)), ((5, 0), .v (.int .i64 (x1).count)), ((5, 1), .v (q1.val (x1).waits.length))] [] [] z122 z138 trivial rfl ?_
   refine jO (ti := aU tab) aA rfl rfl rfl rfl rfl ⟨rfl, rfl⟩ hgg op.on.toNat hi.symm hjl ?_
   refine gH (ti := aU tab) cI 5 aA rfl rfl rfl rfl rfl rfl rfl rfl hgg op.on.toNat 0 ⟨x1, q1⟩ rfl hjl rfl (dR ⟨x1, q1⟩) (fun _ => rfl) z74 z100 ?_
   refine cF _ [2, 3] (G := [_, _]) iY0 rfl rfl rfl rfl ⟨rfl, rfl⟩ rfl rfl ⟨rfl, rfl, trivial⟩ ⟨rfl, rfl, rfl, rfl, trivial⟩ (fun A w ga hga hW hblk => (qF ga _ _ p y _ _ k (b1) (y.pure) w hblk (hW.atG [2, 3] (G := [_, _]) ⟨rfl, rfl, trivial⟩ rfl ⟨rfl, rfl, rfl, rfl, trivial⟩ [10] (Fo := [_]) z148 rfl) (hW.atG_off z103 hga (ix := [2, 3]) (G := [_, _]) ⟨rfl, rfl, trivial⟩ (jx := [10]) (Fo := [_]) z148) rfl rfl hnm hn hkn hpA hn4)) ?_
   rintro v cs L ⟨rfl, rfl, rfl⟩
   have hlp : (cC p.pure (y.pure) k (b1)).places.length = y.places.length := ((eW _ _ _ _).1.trans rfl)
   have hls : (cC p.pure (y.pure) k (b1)).status.length = y.status.length := ((eW _ _ _ _).2.trans rfl)
   refine CaseB.mk (fun g => by cases g) (fun _ => ?_)
   obtain ⟨y9, hy9⟩ : ∃ y9 : StateH, y9 = ⟨(cC p.pure (y.pure) k (b1)).places, (cC p.pure (y.pure) k (b1)).status, y.sems, y.onces, (y.groups.set op.on.toNat ⟨x1, q1⟩), y.barriers, y.chans, y.said, y.fault, y.h0, y.h1, y.h2, y.h3, y.h4, y.h5, y.h6, y.h7⟩ := ⟨_, rfl⟩
   have hP : y9.pure = doM p.pure s.pure k := by
     rw [hD, qD, hxa, hres]
     show _ = cC p.pure (setGroup s.pure op x1) k b1
     rw [← hy, pC p.pure y.pure (setGroup y.pure op x1) k b1 rfl rfl, hy9]
     simp only [StateH.pure, setGroup, List.map_set]
   have h64 : (doM p.pure s.pure k).said.length ≤ 64 := by
     rw [← hP, hy9]
     exact hsd
   have hok : StepOk p.pure s.pure k := hso.2 ⟨h64, hwn (by omega)⟩
   have hsm : y9.pure.small20 := by rw [hP]; exact hok.2.2.2.small
   have hv : aM y9 = aM y := by
     rw [hy9]; simp only [aM, hlp, hls, List.length_set]
   have hcl := fun w h => cO y9 w h hsm
   rw [hv] at hcl
   refine aB _ pJ rfl rfl rfl rfl ⟨rfl, rfl⟩ (fun A w hW => hcl w ⟨sE hW (jV y9 (by rw [hy9]; exact fT 0 1 4 5 2 6 7 8 rfl rfl rfl rfl rfl rfl rfl rfl) (by rw [hy9]; exact fun g hg => (lQ hg).elim (fun h => inO 9 rfl h) (fun h => by obtain rfl := List.mem_singleton.1 h; exact inF (List.mem_of_getElem? (i := 3) rfl)))), trivial⟩) ?_
   rintro v L ⟨y3, rfl, hy3, rfl⟩
   exact bG [0] ⟨y3, true, rfl, jS hok, fun _ => hy3.trans hP, fun e => z105, rfl⟩ z144 rfl ⟨rfl, trivial⟩ (fun _ => rfl)
 refine CaseB.mk (fun g => ?_) (fun g7 => ?_)
 · have hk : op.kind = 7 := by simpa using g
   obtain ⟨x, hx, hxa, ok, hi⟩ := r.barrier hk
   have hil : op.on.toNat < s.barriers.length := by have := (List.getElem?_eq_some_iff.1 hx).1; simpa [StateH.pure] using this
   have hxe : (s.barriers[op.on.toNat]'hil).m = x := by have := hx; simp only [StateH.pure, List.getElem?_map, List.getElem?_eq_getElem hil, Option.map_some, Option.some.injEq] at this; exact this
   subst hxe
   have hjl : op.on.toNat < y.barriers.length := by have := congrArg List.length hy5; simp at this; omega
   have hnq := fun u (h : aN (bH s.pure) u = []) => (lF hx (s.barriers[op.on.toNat]).m).none h
   have hD : doM p.pure s.pure k = hJ p.pure s.pure k op := by rw [hdm, dD, if_neg (by omega), if_neg (by omega), if_neg (by omega), if_neg (by omega), if_neg (by omega), if_neg (by omega), if_pos hk]
   have hq : (k : Int) ∉ (s.barriers[op.on.toNat]'hil).m.waits := by simpa using (bC (g := fun t : Int => t)).1 (hnq _ r.ev)
   refine aG cA aA rfl rfl rfl rfl rfl ⟨rfl, rfl⟩ (aL 12 rfl (.trans (.R_R (bJ s)) (.ofR aX))) op.on.toNat hi.symm z43 (fun ad5 => ?_)
   rcases hres : (s.barriers[op.on.toNat]'hil).m.arrive k with _ | ⟨x1, told⟩
   · refine aB _ cl75 rfl rfl rfl rfl ⟨rfl, rfl⟩ (fun A w hW => cR0 _ _ _ w ⟨hW.get 12 rfl (.trans (.R_R (bJ s)) (.ofR (dO _ _ op.on.toNat hil))), trivial⟩ ok r.thr hq) ?_
     rw [hres]
     rintro v L ⟨z1, rfl, rfl⟩
     refine CaseB.mk (fun _ => ?_) (fun g => by simp at g)
     have n : ¬ StepOk p.pure s.pure k := fun e => (hso.1 e).2 (by rw [sD, r.at_, hxa]; exact ⟨hk, hres⟩)
     refine aO (.joinO [90] (Gs := [_]) ⟨.inr ⟨Nat.le_of_ble_eq_true rfl, dU⟩, trivial⟩ rfl (G := aK StateH.zero) (.of_eq (by simp))) ?_
     exact bG [0] ⟨StateH.zero, false, rfl, tno n, fun e => z105, fun _ => rfl, rfl⟩ z144 rfl ⟨rfl, trivial⟩ (fun _ => rfl)
   have htin := vM ok hres
   have htl : told.length ≤ 100 := by omega
   have htold : ∀ u ∈ told, 0 ≤ u ∧ u < (y.places.length : Int) := fun u hu => by
     by_cases hne : u = k
     · rw [hne]; exact hkn
     have := ft.isIn fun h0 => (htin.1 u hu).elim (fun hu => (bC (g := fun t : Int => t)).1 (hnq u h0) (by simpa using hu)) (fun hu => hne hu)
     rw [lt] at this
     omega
   have hnw : ¬ sD p.pure s.pure k := fun e => by rw [sD, r.at_, hxa, hres] at e; cases e.2
   refine aB _ cl75 rfl rfl rfl rfl ⟨rfl, rfl⟩ (fun A w hW => cR0 _ _ _ w ⟨hW.get 12 rfl (.trans (.R_R (bJ s)) (.ofR (dO _ _ op.on.toNat hil))), trivial⟩ ok r.thr hq) ?_
   rw [hres]
   rintro v L ⟨q1, z1, rfl, rfl⟩
   refine CaseB.mk (fun g => by simp at g) (fun _ => ?_)
   refine gG 7 rfl (show 0 < y.barriers.length by omega) fun gg hgg _ _ => ?_
   refine aF aA z102 z102 z102 200 [((3, 10), .v (y.h5.val y.barriers.length)), ((4, 1), .v (.int .i64 op.on)), ((5, 0), .v (.int .i64 (x1).parties)), ((5, 1), .v (.int .i64 (x1).round)), ((5, 2), .v (q1.val (x1).waits.length))] [] [] z117 z133 trivial rfl ?_
   refine jO (ti := aU tab) aA rfl rfl rfl rfl rfl ⟨rfl, rfl⟩ hgg op.on.toNat hi.symm hjl ?_
   refine gH (ti := aU tab) cA 7 aA rfl rfl rfl rfl rfl rfl rfl rfl hgg op.on.toNat 0 ⟨x1, q1⟩ rfl hjl rfl (dA ⟨x1, q1⟩) (fun _ => rfl) z74 z100 ?_
   apply CaseB.mk <;> intro g
   · have e0 : told = [] := List.eq_nil_of_length_eq_zero z84
     subst e0
     refine cP aE 4 aA rfl rfl rfl rfl rfl ⟨rfl, rfl⟩ rfl (rfl).symm k rfl (by omega) (fun gs hgs => ?_)
     refine bS aE 4 aA rfl rfl rfl rfl rfl rfl rfl rfl hgs k 0 1 rfl (by omega) rfl [.int .i64 1] (fun _ => rfl) rfl ?_
     refine cF _ [4, 0] (G := [_, _]) rT rfl rfl rfl rfl ⟨rfl, rfl⟩ rfl rfl ⟨rfl, rfl, trivial⟩ ⟨rfl, rfl, rfl, rfl, trivial⟩ (fun A w ga hga hW hblk => (jU ga _ _ p y _ _ _ [] (bE (y.pure) k 1) w hblk (hW.atG [4, 0] (G := [_, _]) ⟨rfl, rfl, trivial⟩ rfl ⟨rfl, rfl, rfl, rfl, trivial⟩ [11, 3] (Fo := [_, _]) z142 rfl) (hW.atG_off z103 hga (ix := [4, 0]) (G := [_, _]) ⟨rfl, rfl, trivial⟩ (jx := [11, 3]) (Fo := [_, _]) z142) rfl ((List.length_set ..).trans rfl) hnm hn (fun x hx => by simp at hx) (by simp) hpA hn4)) ?_
     rintro v cs L ⟨rfl, rfl, rfl⟩
     have hlp : (onM p.pure [] (bE (y.pure) k 1)).places.length = y.places.length := ((aT _ _ _).1.trans rfl)
     have hls : (onM p.pure [] (bE (y.pure) k 1)).status.length = y.status.length := ((aT _ _ _).2.trans ((List.length_set ..).trans rfl))
     refine CaseB.mk (fun g => by cases g) (fun _ => ?_)
     obtain ⟨y9, hy9⟩ : ∃ y9 : StateH, y9 = ⟨(onM p.pure [] (bE (y.pure) k 1)).places, (onM p.pure [] (bE (y.pure) k 1)).status, y.sems, y.onces, y.groups, (y.barriers.set op.on.toNat ⟨x1, q1⟩), y.chans, y.said, y.fault, y.h0, y.h1, y.h2, y.h3, y.h4, y.h5, y.h6, y.h7⟩ := ⟨_, rfl⟩
     have hP : y9.pure = doM p.pure s.pure k := by
       rw [hD, hJ, hxa, hres]
       show _ = bE (setBarrier s.pure op x1) k 1
       rw [← hy, hy9]
       simp only [StateH.pure, setBarrier, List.map_set, bE, onM, List.foldl_nil]
     have h64 : (doM p.pure s.pure k).said.length ≤ 64 := by
       rw [← hP, hy9]
       exact hsd
     have hok : StepOk p.pure s.pure k := hso.2 ⟨h64, hnw⟩
     have hsm : y9.pure.small20 := by rw [hP]; exact hok.2.2.2.small
     have hv : aM y9 = aM y := by
       rw [hy9]; simp only [aM, hlp, hls, List.length_set]
     have hcl := fun w h => cO y9 w h hsm
     rw [hv] at hcl
     refine aB _ pJ rfl rfl rfl rfl ⟨rfl, rfl⟩ (fun A w hW => hcl w ⟨sE hW (jV y9 z66 z40), trivial⟩) ?_
     rintro v L ⟨y3, rfl, hy3, rfl⟩
     exact bG [0] ⟨y3, true, rfl, jS hok, fun _ => hy3.trans hP, fun e => z105, rfl⟩ z144 rfl ⟨rfl, trivial⟩ (fun _ => rfl)
   have e0 : ¬ told = [] := fun e => by subst e; simp at g
   refine cF _ [3, 4] (G := [_, _]) rT rfl rfl rfl rfl ⟨rfl, rfl⟩ rfl rfl ⟨rfl, rfl, trivial⟩ ⟨rfl, rfl, rfl, rfl, trivial⟩ (fun A w ga hga hW hblk => (jU ga _ _ p y _ _ _ told (y.pure) w hblk (hW.atG [3, 4] (G := [_, _]) ⟨rfl, rfl, trivial⟩ rfl ⟨rfl, rfl, rfl, rfl, trivial⟩ [11, 2] (Fo := [_, _]) z142 rfl) (hW.atG_off z103 hga (ix := [3, 4]) (G := [_, _]) ⟨rfl, rfl, trivial⟩ (jx := [11, 2]) (Fo := [_, _]) z142) rfl rfl hnm hn htold htl hpA hn4)) ?_
   rintro v cs L ⟨rfl, rfl, rfl⟩
   have hlp : (onM p.pure told (y.pure)).places.length = y.places.length := ((aT _ _ _).1.trans rfl)
   have hls : (onM p.pure told (y.pure)).status.length = y.status.length := ((aT _ _ _).2.trans rfl)
   refine CaseB.mk (fun g => by cases g) (fun _ => ?_)
   obtain ⟨y9, hy9⟩ : ∃ y9 : StateH, y9 = ⟨(onM p.pure told (y.pure)).places, (onM p.pure told (y.pure)).status, y.sems, y.onces, y.groups, (y.barriers.set op.on.toNat ⟨x1, q1⟩), y.chans, y.said, y.fault, y.h0, y.h1, y.h2, y.h3, y.h4, y.h5, y.h6, y.h7⟩ := ⟨_, rfl⟩
   have hP : y9.pure = doM p.pure s.pure k := by
     rw [hD, hJ, hxa, hres]
     show _ = if told = [] then bE (setBarrier s.pure op x1) k 1 else onM p.pure told (setBarrier s.pure op x1)
     rw [if_neg e0, ← hy, eU p.pure told y.pure (setBarrier y.pure op x1) rfl rfl, hy9]
     simp only [StateH.pure, setBarrier, List.map_set]
   have h64 : (doM p.pure s.pure k).said.length ≤ 64 := by
     rw [← hP, hy9]
     exact hsd
   have hok : StepOk p.pure s.pure k := hso.2 ⟨h64, hnw⟩
   have hsm : y9.pure.small20 := by rw [hP]; exact hok.2.2.2.small
   have hv : aM y9 = aM y := by
     rw [hy9]; simp only [aM, hlp, hls, List.length_set]
   have hcl := fun w h => cO y9 w h hsm
   rw [hv] at hcl
   refine aB _ pJ rfl rfl rfl rfl ⟨rfl, rfl⟩ (fun A w hW => hcl w ⟨sE hW (jV y9 z66 z40), trivial⟩) ?_
   rintro v L ⟨y3, rfl, hy3, rfl⟩
   exact bG [0] ⟨y3, true, rfl, jS hok, fun _ => hy3.trans hP, fun e => z105, rfl⟩ z144 rfl ⟨rfl, trivial⟩ (fun _ => rfl)
 refine CaseB.mk (fun g => ?_) (fun g8 => ?_)
 · have hk : op.kind = 8 := by simpa using g
   obtain ⟨x, hx, hxa, hv, hval, hi⟩ := r.chan (by omega)
   have hil : op.on.toNat < s.chans.length := by have := (List.getElem?_eq_some_iff.1 hx).1; simpa [StateH.pure] using this
   have hxe : (s.chans[op.on.toNat]'hil).m = x := by have := hx; simp only [StateH.pure, List.getElem?_map, List.getElem?_eq_getElem hil, Option.map_some, Option.some.injEq] at this; exact this
   subst hxe
   have hjl : op.on.toNat < y.chans.length := by have := congrArg List.length hy6; simp at this; omega
   have hnq := fun u (h : aN (bH s.pure) u = []) => (fA hx (s.chans[op.on.toNat]).m).none h
   have hD : doM p.pure s.pure k = lX p.pure s.pure k op := by rw [hdm, dD, if_neg (by omega), if_neg (by omega), if_neg (by omega), if_neg (by omega), if_neg (by omega), if_neg (by omega), if_neg (by omega), if_pos hk]
   have hsm := hv.small
   obtain ⟨x1, told, b1, o1, hres⟩ : ∃ x1 told b1 o1, (s.chans[op.on.toNat]'hil).m.send k op.arg = (x1, told, b1, o1) := ⟨_, _, _, _, rfl⟩
   have htin := zK hres
   have htl : told.length ≤ 100 := by omega
   have htold : ∀ u ∈ told, 0 ≤ u ∧ u < (y.places.length : Int) := fun u hu => by
     have := ft.isIn fun h0 => z77
     rw [lt] at this
     omega
   refine aF aA z102 z102 z102 200 [((1, 6), .v (s.h6.val s.chans.length)), ((4, 1), .v (.int .i64 op.on)), ((4, 2), .v (.int .i64 op.arg))] [12] [_] z129 z141 ⟨rfl, trivial⟩ rfl ?_
   refine bO (ti := aU tab) cN aA rfl rfl rfl rfl rfl ⟨rfl, rfl⟩ (aL 0 rfl (.trans (.R_R (aQ s)) (.ofR aX))) op.on.toNat hi.symm z43 (fun ad5 => ?_)
   refine BothW.mk ?_ ?_
   all_goals
     refine bN _ cl76 rfl rfl rfl rfl ⟨rfl, rfl⟩ (fun A w hW => oV0 _ _ _ _ _ _ w ⟨hW.get 12 rfl (.trans (.R_R (aQ s)) (.ofR (kO _ _ op.on.toNat hil))), hW.get 12 rfl (.trans (.R_R (aQ s)) (.ofR (gJ _ _ op.on.toNat hil))), hW.get 12 rfl (.trans (.R_R (aQ s)) (.ofR (hH _ _ op.on.toNat hil))), trivial⟩ hsm) ?_
     rw [hres]
     rintro v L ⟨q0, q1, q2, z1, rfl, rfl⟩
     apply CaseB.mk <;> intro g
     · have e0 : o1 = false := by simpa using g
       have hF : doM p.pure s.pure k = gK s.pure 3 := by
         rw [hD, lX, hxa, hres]
         simp [e0]
       have hok : StepOk p.pure s.pure k := hso.2 ⟨by rw [hF]; exact ft.lsaid, hwn (by omega)⟩
       refine eG _ [] (G := []) mD0 rfl rfl rfl rfl ⟨rfl, rfl⟩ rfl rfl trivial trivial (fun A w ga hga hW hblk => wG 3 ga s w hblk (hW.atG [] (G := []) trivial rfl trivial [16] (Fo := [_]) z132 rfl) (hW.atG_off z103 hga (ix := []) (G := []) trivial (jx := [16]) (Fo := [_]) z132) hs) ?_
       rintro v cs L ⟨y3, rfl, rfl, hy3, rfl⟩
       exact bG [0] ⟨y3, true, rfl, jS hok, fun _ => hy3.trans hF.symm, fun e => z105, rfl⟩ z144 rfl ⟨rfl, trivial⟩ (fun _ => rfl)
     have e0 : o1 = true := by simpa using g
     refine gG 10 rfl (show 0 < y.chans.length by omega) fun gg hgg _ _ => ?_
     refine aF aA z102 z102 z102 200 [((3, 11), .v (y.h6.val y.chans.length)), ((4, 1), .v (.int .i64 op.on)), ((5, 0), .v (.int .i64 (x1).room)), ((5, 1), .v (q0.val (x1).items.length)), ((5, 2), .v (q1.val (x1).senders.length)), ((5, 3), .v (q2.val (x1).getters.length)), ((5, 4), .v (.bool (x1).closed))] [] [] z112 z127 trivial rfl ?_
     refine jO (ti := aU tab) aA rfl rfl rfl rfl rfl ⟨rfl, rfl⟩ hgg op.on.toNat hi.symm hjl ?_
     refine gH (ti := aU tab) cN 10 aA rfl rfl rfl rfl rfl rfl rfl rfl hgg op.on.toNat 0 ⟨x1, q0, q1, q2⟩ rfl hjl rfl (fH ⟨x1, q0, q1, q2⟩) (fun _ => rfl) z74 z100 ?_
     refine LoopW.mk ⟨{ q : Nat × Sl × List Int × Bool × List Int × List Int // q.1 ≤ told.length ∧ q.2.2.1 = (if q.1 = 0 then y.said else kU y.said op.arg) ∧ q.2.2.2.1 = (decide (0 < q.1) && decide (64 ≤ y.said.length)) ∧ q.2.2.2.2.1 = (onM p.pure (told.take q.1) y.pure).places ∧ q.2.2.2.2.2 = (onM p.pure (told.take q.1) y.pure).status },
       fun q => .mk [(2, .v (.int .i64 (k : Int))), (3, .p 0 0), (4, .p 1 0), (6, .p 2 0), (8, .p 3 0), (9, .p 4 0), (34, .v (.bool b1)), (371, .v (z1.val told.length)), (372, .v (.int .i64 (told.length : Int))), (373, .v (.int .i64 (q.1.1 : Int)))] 6 0 [(0, 26, 5), (1, 35, 9), (2, 35, 9), (3, 89, 15), (4, 65, 3)] [((3, 0), .v (p.h0.val p.sems.length)), ((3, 1), .v (p.h1.val p.groups.length)), ((3, 2), .v (p.h2.val p.barriers.length)), ((3, 3), .v (p.h3.val p.rooms.length)), ((3, 4), .v (p.h4.val p.threads.length)), ((3, 5), .v (y.h0.val y.places.length)), ((3, 6), .v (y.h1.val y.status.length)), ((3, 7), .v (y.h2.val y.sems.length)), ((3, 8), .v (y.h3.val y.onces.length)), ((3, 9), .v (y.h4.val y.groups.length)), ((3, 10), .v (y.h5.val y.barriers.length)), ((3, 11), .v (y.h6.val y.chans.length)), ((3, 12), .v (q.1.2.1.val q.1.2.2.1.length)), ((3, 13), .v (.int .i64 y.fault)), ((3, 14), .v (.bool q.1.2.2.2.1)), ((4, 0), .v (.int .i64 op.kind)), ((4, 1), .v (.int .i64 op.on)), ((4, 2), .v (.int .i64 op.arg))] [own y.h0 3 aJ 1 q.1.2.2.2.2.1, own y.h1 3 aJ 1 q.1.2.2.2.2.2, own q.1.2.1 3 aJ 1 q.1.2.2.1, own z1 3 aJ 1 told, own y.h2 95 gI 3 y.sems, own y.h3 102 eD 4 y.onces, own y.h4 108 dR 2 y.groups, own y.h5 114 dA 3 y.barriers, own y.h6 119 fH 5 (y.chans.set op.on.toNat ⟨x1, q0, q1, q2⟩), fO (gW y), slo p.h4 kP 1 p.threads, own q0 3 aJ 1 x1.items, own q1 187 fX 2 x1.senders, own q2 3 aJ 1 x1.getters],
       fun q => told.length - q.1.1, ⟨(0, y.h7, y.said, false, y.places, y.status), Nat.zero_le _, rfl, by simp, rfl, rfl⟩, ?_, ?_⟩
     · exact aC [5, 6, 11, 4, 7, 8, 9, 10, 0, 12, 13, 1, 2, 3] zw2 zw0 zw2 zw5 zw4 rfl rfl
     rintro ⟨⟨j, z, sd, fl, pl, st2⟩, hj, hsd2, hfl2, hpl2, hst3⟩
     simp only at hj hsd2 hfl2 hpl2 hst3
     simp only
     apply CaseB.mk <;> intro g
     · have hlt : j < told.length := by simpa using g
       obtain rfl : j = 0 := by have := htin.2.1; omega
       obtain rfl : sd = y.said := by simpa using hsd2
       obtain rfl : fl = false := by simpa using hfl2
       obtain rfl : pl = y.pure.places := by simpa [onM] using hpl2
       obtain rfl : st2 = y.pure.status := by simpa [onM] using hst3
       obtain ⟨t0, rfl⟩ : ∃ t0, told = [t0] := List.length_eq_one_iff.1 (by have := htin.2.1; omega)
       refine aG aE aA rfl rfl rfl rfl rfl ⟨rfl, rfl⟩ (aL 3 rfl (Rd.own (o := false) (o' := false))) 0 rfl z43 (fun ad7 => ?_)
       refine cF _ [2] (G := [_]) oL0 rfl rfl rfl rfl ⟨rfl, rfl⟩ rfl rfl ⟨rfl, trivial⟩ ⟨rfl, rfl, trivial⟩ (fun A w ga hga hW hblk => (kL0 ga _ _ p y z y.said false op.arg w hblk (hW.atG [2] (G := [_]) ⟨rfl, trivial⟩ rfl ⟨rfl, rfl, trivial⟩ [] (Fo := []) trivial rfl) (hW.atG_off z103 hga (ix := [2]) (G := [_]) ⟨rfl, trivial⟩ (jx := []) (Fo := []) trivial) (by omega))) ?_
       rintro v cs L ⟨rfl, z9, rfl, rfl⟩
       refine AllSl.mk fun zt => ?_
       refine cF _ [2, 3] (G := [_, _]) rT rfl rfl rfl rfl ⟨rfl, rfl⟩ rfl rfl ⟨rfl, rfl, trivial⟩ ⟨rfl, rfl, rfl, rfl, trivial⟩ (fun A w ga hga hW hblk => (jU ga _ _ p y _ _ zt [t0] y.pure w hblk (hW.atG [2, 3] (G := [_, _]) ⟨rfl, rfl, trivial⟩ rfl ⟨rfl, rfl, rfl, rfl, trivial⟩ [11, 0] (Fo := [_, _]) z142 rfl) (hW.atG_off z103 hga (ix := [2, 3]) (G := [_, _]) ⟨rfl, rfl, trivial⟩ (jx := [11, 0]) (Fo := [_, _]) z142) rfl rfl hnm hn (fun x hx => by simp at hx; rw [hx]; exact htold _ (by simp)) (by simp) hpA hn4)) ?_
       rintro v cs L ⟨rfl, rfl, rfl⟩
       have ht1 : [t0].take 1 = [t0] := rfl
       refine ⟨⟨(1, z9, kU y.said op.arg, (false || decide (64 ≤ y.said.length)), (onM p.pure [t0] y.pure).places, (onM p.pure [t0] y.pure).status), hlt, by simp, by simp, by simp only [ht1], by simp only [ht1]⟩, ?_, by simp only; omega⟩
       exact aC [0, 1, 3, 4, 5, 6, 7, 8, 9, 10, 11, 12, 13, 14] zw2 zw0 zw2 zw5 zw4 rfl rfl
     have hge : told.length ≤ j := by simpa using g
     have hjt : j = told.length := by omega
     rw [List.take_of_length_le hge] at hpl2 hst3
     subst hpl2
     subst hst3
     refine cF _ [0, 1] (G := [_, _]) iY0 rfl rfl rfl rfl ⟨rfl, rfl⟩ rfl rfl ⟨rfl, rfl, trivial⟩ ⟨rfl, rfl, rfl, rfl, trivial⟩ (fun A w ga hga hW hblk => (qF ga _ _ p y _ _ k (b1) (onM p.pure told y.pure) w hblk (hW.atG [0, 1] (G := [_, _]) ⟨rfl, rfl, trivial⟩ rfl ⟨rfl, rfl, rfl, rfl, trivial⟩ [10] (Fo := [_]) z148 rfl) (hW.atG_off z103 hga (ix := [0, 1]) (G := [_, _]) ⟨rfl, rfl, trivial⟩ (jx := [10]) (Fo := [_]) z148) (aT _ _ _).1 (aT _ _ _).2 hnm hn hkn (fun x hx => by have := hZ p.pure told y.pure 20 (by omega) hp0 x hx; omega) hn4)) ?_
     rintro v cs L ⟨rfl, rfl, rfl⟩
     have hlp : (cC p.pure (onM p.pure told y.pure) k (b1)).places.length = y.places.length := ((eW _ _ _ _).1.trans (aT _ _ _).1)
     have hls : (cC p.pure (onM p.pure told y.pure) k (b1)).status.length = y.status.length := ((eW _ _ _ _).2.trans (aT _ _ _).2)
     obtain ⟨S1, hS1⟩ : ∃ S1 : State, S1 = if told = [] then setChan y.pure op x1 else kF (setChan y.pure op x1) op.arg := ⟨_, rfl⟩
     have s1 : S1.places = y.pure.places := by rw [hS1]; split <;> rfl
     have s2 : S1.status = y.pure.status := by rw [hS1]; split <;> rfl
     have hD2 : doM p.pure s.pure k = cC p.pure (onM p.pure told S1) k b1 := by
       rw [hD, lX, hxa, hres, ← hy]
       show (if o1 = true then (if b1 = true then onM p.pure (told ++ [(k : Int)]) (if told = [] then setChan y.pure op x1 else kF (setChan y.pure op x1) op.arg) else bE (setChan y.pure op x1) k 1) else gK y.pure 3) = _
       rw [if_pos e0, ← hS1, cC]
       cases hb1 : b1
       · have := htin.2.2 hb1
         subst this
         rw [hS1]
         simp [onM]
       · simp only [if_true]
         exact qY _ _ _ _
     have hpu : cC p.pure (onM p.pure told S1) k b1 = { S1 with places := (cC p.pure (onM p.pure told y.pure) k b1).places, status := (cC p.pure (onM p.pure told y.pure) k b1).status } := by
       have h1 := eU p.pure told y.pure S1 s1 s2
       rw [pC p.pure (onM p.pure told y.pure) (onM p.pure told S1) k b1 (by rw [h1]) (by rw [h1]), h1]
     apply CaseB.mk <;> intro g
     · have g2 : fl = true := g
       rw [hfl2] at g2
       have hf : 0 < told.length ∧ 64 ≤ y.said.length := by simpa [hjt] using g2
       have hne : ¬ told = [] := fun e => by rw [e] at hf; simp at hf
       have n : ¬ StepOk p.pure s.pure k := fun e => by
         have h := (hso.1 e).1
         rw [hD2, hpu, hS1, if_neg hne] at h
         have h' : (y.said ++ [op.arg]).length ≤ 64 := h
         simp at h'
         omega
       refine aO (.joinO [90] (Gs := [_]) ⟨.inr ⟨Nat.le_of_ble_eq_true rfl, dU⟩, trivial⟩ rfl (G := aK StateH.zero) (.of_eq (by simp))) ?_
       exact bG [0] ⟨StateH.zero, false, rfl, tno n, fun e => z105, fun _ => rfl, rfl⟩ z144 rfl ⟨rfl, trivial⟩ (fun _ => rfl)
     have g2 : fl = false := g
     rw [hfl2] at g2
     have hS : S1 = { setChan y.pure op x1 with said := sd } := by
       rw [hS1]
       by_cases e : told = []
       · have j0 : j = 0 := by rw [hjt, e]; rfl
         rw [if_pos e, hsd2, if_pos j0]; rfl
       · have j1 : 0 < j := by rw [hjt]; exact List.length_pos_iff.2 e
         have hf : ¬ 64 ≤ y.said.length := by simpa [j1] using g2
         rw [if_neg e, hsd2, if_neg (by omega), kU, if_neg hf]; rfl
     have hsd3 : sd.length ≤ 64 := by
       rw [hsd2]
       split
       · exact hsd
       · have j1 : 0 < j := by omega
         have hf : ¬ 64 ≤ y.said.length := by simpa [j1] using g2
         rw [kU, if_neg hf]; simp; omega
     obtain ⟨y9, hy9⟩ : ∃ y9 : StateH, y9 = ⟨(cC p.pure (onM p.pure told y.pure) k (b1)).places, (cC p.pure (onM p.pure told y.pure) k (b1)).status, y.sems, y.onces, y.groups, y.barriers, (y.chans.set op.on.toNat ⟨x1, q0, q1, q2⟩), sd, y.fault, y.h0, y.h1, y.h2, y.h3, y.h4, y.h5, y.h6, z⟩ := ⟨_, rfl⟩
     have hP : y9.pure = doM p.pure s.pure k := by
       rw [hD2, hpu, hS, hy9]
       simp only [StateH.pure, setChan, List.map_set]
     have h64 : (doM p.pure s.pure k).said.length ≤ 64 := by
       rw [← hP, hy9]
       exact hsd3
     have hok : StepOk p.pure s.pure k := hso.2 ⟨h64, hwn (by omega)⟩
     have hsm : y9.pure.small20 := by rw [hP]; exact hok.2.2.2.small
     have hv : aM y9 = .agg #[y.h0.val y.places.length, y.h1.val y.status.length, y.h2.val y.sems.length, y.h3.val y.onces.length, y.h4.val y.groups.length, y.h5.val y.barriers.length, y.h6.val y.chans.length, (z).val (sd).length, .int .i64 y.fault] := by
       rw [hy9]; simp only [aM, hlp, hls, List.length_set]
     have hcl := fun w h => cO y9 w h hsm
     rw [hv] at hcl
     refine aB _ pJ rfl rfl rfl rfl ⟨rfl, rfl⟩ (fun A w hW => hcl w ⟨sE hW (jV y9 (by rw [hy9]; exact fT 0 1 4 5 6 7 8 2 rfl rfl rfl rfl rfl rfl rfl rfl) (by rw [hy9]; exact fun g hg => (iO hg).elim (fun h => inO 9 rfl h) (fun h => by simp only [gM, List.mem_cons, List.not_mem_nil, or_false] at h; rcases h with rfl | rfl | rfl <;> first | exact inF (List.mem_of_getElem? (i := 11) rfl) | exact inF (List.mem_of_getElem? (i := 12) rfl) | exact inF (List.mem_of_getElem? (i := 13) rfl)))), trivial⟩) ?_
     rintro v L ⟨y3, rfl, hy3, rfl⟩
     exact bG [0] ⟨y3, true, rfl, jS hok, fun _ => hy3.trans hP, fun e => z105, rfl⟩ z144 rfl ⟨rfl, trivial⟩ (fun _ => rfl)
 refine CaseB.mk (fun g => ?_) (fun g9 => ?_)
 · have hk : op.kind = 9 := by simpa using g
   obtain ⟨x, hx, hxa, hv, hval, hi⟩ := r.chan (by omega)
   have hil : op.on.toNat < s.chans.length := by have := (List.getElem?_eq_some_iff.1 hx).1; simpa [StateH.pure] using this
   have hxe : (s.chans[op.on.toNat]'hil).m = x := by have := hx; simp only [StateH.pure, List.getElem?_map, List.getElem?_eq_getElem hil, Option.map_some, Option.some.injEq] at this; exact this
   subst hxe
   have hjl : op.on.toNat < y.chans.length := by have := congrArg List.length hy6; simp at this; omega
   have hnq := fun u (h : aN (bH s.pure) u = []) => (fA hx (s.chans[op.on.toNat]).m).none h
   have hD : doM p.pure s.pure k = rN p.pure s.pure k op := by rw [hdm, dD, if_neg (by omega), if_neg (by omega), if_neg (by omega), if_neg (by omega), if_neg (by omega), if_neg (by omega), if_neg (by omega), if_neg (by omega), if_pos hk]
   have hsm := hv.small
   obtain ⟨x1, v1, c1, told, o1, hres⟩ : ∃ x1 v1 c1 told o1, (s.chans[op.on.toNat]'hil).m.get k = (x1, v1, c1, told, o1) := ⟨_, _, _, _, _, rfl⟩
   have htin := cV0 hres
   have htl : told.length ≤ 100 := by omega
   have htold : ∀ u ∈ told, 0 ≤ u ∧ u < (y.places.length : Int) := fun u hu => by
     have := ft.isIn fun h0 => z77
     rw [lt] at this
     omega
   refine aG cN aA rfl rfl rfl rfl rfl ⟨rfl, rfl⟩ (aL 12 rfl (.trans (.R_R (aQ s)) (.ofR aX))) op.on.toNat hi.symm z43 (fun ad5 => ?_)
   refine aB _ cl77 rfl rfl rfl rfl ⟨rfl, rfl⟩ (fun A w hW => get_c _ _ _ _ _ w ⟨hW.get 12 rfl (.trans (.R_R (aQ s)) (.ofR (kO _ _ op.on.toNat hil))), hW.get 12 rfl (.trans (.R_R (aQ s)) (.ofR (gJ _ _ op.on.toNat hil))), hW.get 12 rfl (.trans (.R_R (aQ s)) (.ofR (hH _ _ op.on.toNat hil))), trivial⟩ hsm) ?_
   rw [hres]
   rintro v L ⟨q0, q1, q2, z1, rfl, rfl⟩
   refine gG 10 rfl (show 0 < y.chans.length by omega) fun gg hgg _ _ => ?_
   refine aF aA z102 z102 z102 200 [((3, 11), .v (y.h6.val y.chans.length)), ((4, 1), .v (.int .i64 op.on)), ((5, 0), .v (.int .i64 (x1).room)), ((5, 1), .v (q0.val (x1).items.length)), ((5, 2), .v (q1.val (x1).senders.length)), ((5, 3), .v (q2.val (x1).getters.length)), ((5, 4), .v (.bool (x1).closed))] [] [] z112 z127 trivial rfl ?_
   refine jO (ti := aU tab) aA rfl rfl rfl rfl rfl ⟨rfl, rfl⟩ hgg op.on.toNat hi.symm hjl ?_
   refine gH (ti := aU tab) cN 10 aA rfl rfl rfl rfl rfl rfl rfl rfl hgg op.on.toNat 0 ⟨x1, q0, q1, q2⟩ rfl hjl rfl (fH ⟨x1, q0, q1, q2⟩) (fun _ => rfl) z74 z100 ?_
   refine cF _ [5, 6] (G := [_, _]) rT rfl rfl rfl rfl ⟨rfl, rfl⟩ rfl rfl ⟨rfl, rfl, trivial⟩ ⟨rfl, rfl, rfl, rfl, trivial⟩ (fun A w ga hga hW hblk => (jU ga _ _ p y _ _ _ told (y.pure) w hblk (hW.atG [5, 6] (G := [_, _]) ⟨rfl, rfl, trivial⟩ rfl ⟨rfl, rfl, rfl, rfl, trivial⟩ [13, 4] (Fo := [_, _]) z142 rfl) (hW.atG_off z103 hga (ix := [5, 6]) (G := [_, _]) ⟨rfl, rfl, trivial⟩ (jx := [13, 4]) (Fo := [_, _]) z142) rfl rfl hnm hn htold htl hpA hn4)) ?_
   rintro v cs L ⟨rfl, rfl, rfl⟩
   obtain ⟨S1, hS1⟩ : ∃ S1 : State, S1 = if c1 = 1 then kF (setChan y.pure op x1) v1 else setChan y.pure op x1 := ⟨_, rfl⟩
   have s1 : S1.places = y.pure.places := by rw [hS1]; split <;> rfl
   have s2 : S1.status = y.pure.status := by rw [hS1]; split <;> rfl
   have hD2 : doM p.pure s.pure k = cC p.pure (onM p.pure told S1) k (c1 != 0) := by
     rw [hD, rN, hxa, hres, ← hy]
     show (if c1 = 0 then bE (setChan y.pure op x1) k 1 else onM p.pure (told ++ [(k : Int)]) (if c1 = 1 then kF (setChan y.pure op x1) v1 else setChan y.pure op x1)) = _
     rw [← hS1, cC]
     by_cases h0 : c1 = 0
     · have := htin.2.2.2 h0
       subst this
       subst h0
       rw [hS1]
       simp [onM]
     · rw [if_neg h0, if_pos (by simpa using h0)]
       exact qY _ _ _ _
   have hpu : cC p.pure (onM p.pure told S1) k (c1 != 0) = { S1 with places := (cC p.pure (onM p.pure told y.pure) k (c1 != 0)).places, status := (cC p.pure (onM p.pure told y.pure) k (c1 != 0)).status } := by
     have h1 := eU p.pure told y.pure S1 s1 s2
     rw [pC p.pure (onM p.pure told y.pure) (onM p.pure told S1) k (c1 != 0) (by rw [h1]) (by rw [h1]), h1]
   apply CaseB.mk <;> intro g
   · have e1 : c1 = 1 := by simpa using g
     refine cF _ [11] (G := [_]) oL0 rfl rfl rfl rfl ⟨rfl, rfl⟩ rfl rfl ⟨rfl, trivial⟩ ⟨rfl, rfl, trivial⟩ (fun A w ga hga hW hblk => (kL0 ga _ _ p y y.h7 y.said false v1 w hblk (hW.atG [11] (G := [_]) ⟨rfl, trivial⟩ rfl ⟨rfl, rfl, trivial⟩ [] (Fo := []) trivial rfl) (hW.atG_off z103 hga (ix := [11]) (G := [_]) ⟨rfl, trivial⟩ (jx := []) (Fo := []) trivial) (by omega))) ?_
     rintro v cs L ⟨rfl, z9, rfl, rfl⟩
     refine cF _ [1, 2] (G := [_, _]) iY0 rfl rfl rfl rfl ⟨rfl, rfl⟩ rfl rfl ⟨rfl, rfl, trivial⟩ ⟨rfl, rfl, rfl, rfl, trivial⟩ (fun A w ga hga hW hblk => (qF ga _ _ p y _ _ k (c1 != 0) (onM p.pure told (y.pure)) w hblk (hW.atG [1, 2] (G := [_, _]) ⟨rfl, rfl, trivial⟩ rfl ⟨rfl, rfl, rfl, rfl, trivial⟩ [13] (Fo := [_]) z148 rfl) (hW.atG_off z103 hga (ix := [1, 2]) (G := [_, _]) ⟨rfl, rfl, trivial⟩ (jx := [13]) (Fo := [_]) z148) ((aT _ _ _).1.trans rfl) ((aT _ _ _).2.trans rfl) hnm hn hkn (fun x hx => by have := hZ p.pure told y.pure 20 (by omega) hp0 x hx; omega) hn4)) ?_
     rintro v cs L ⟨rfl, rfl, rfl⟩
     have hlp : (cC p.pure (onM p.pure told (y.pure)) k (c1 != 0)).places.length = y.places.length := ((eW _ _ _ _).1.trans ((aT _ _ _).1.trans rfl))
     have hls : (cC p.pure (onM p.pure told (y.pure)) k (c1 != 0)).status.length = y.status.length := ((eW _ _ _ _).2.trans ((aT _ _ _).2.trans rfl))
     apply CaseB.mk <;> intro g
     · have hf : 64 ≤ y.said.length := by simpa using g
       have n : ¬ StepOk p.pure s.pure k := fun e => by
         have h := (hso.1 e).1
         rw [hD2, hpu, hS1, if_pos e1] at h
         have h' : (y.said ++ [v1]).length ≤ 64 := h
         simp at h'
         omega
       refine aO (.joinO [90] (Gs := [_]) ⟨.inr ⟨Nat.le_of_ble_eq_true rfl, dU⟩, trivial⟩ rfl (G := aK StateH.zero) (.of_eq (by simp))) ?_
       exact bG [0] ⟨StateH.zero, false, rfl, tno n, fun e => z105, fun _ => rfl, rfl⟩ z144 rfl ⟨rfl, trivial⟩ (fun _ => rfl)
     have hf : ¬ 64 ≤ y.said.length := by simpa using g
     obtain ⟨y9, hy9⟩ : ∃ y9 : StateH, y9 = ⟨(cC p.pure (onM p.pure told (y.pure)) k (c1 != 0)).places, (cC p.pure (onM p.pure told (y.pure)) k (c1 != 0)).status, y.sems, y.onces, y.groups, y.barriers, (y.chans.set op.on.toNat ⟨x1, q0, q1, q2⟩), (kU y.said v1), y.fault, y.h0, y.h1, y.h2, y.h3, y.h4, y.h5, y.h6, z9⟩ := ⟨_, rfl⟩
     have hP : y9.pure = doM p.pure s.pure k := by
       rw [hD2, hpu, hS1, if_pos e1, hy9]
       simp only [StateH.pure, setChan, kF, List.map_set, kU, if_neg hf]
     have h64 : (doM p.pure s.pure k).said.length ≤ 64 := by
       rw [← hP, hy9]
       show (kU y.said v1).length ≤ 64
       rw [kU, if_neg hf]
       simp; omega
     have hok : StepOk p.pure s.pure k := hso.2 ⟨h64, hwn (by omega)⟩
     have hsm : y9.pure.small20 := by rw [hP]; exact hok.2.2.2.small
     have hv : aM y9 = .agg #[y.h0.val y.places.length, y.h1.val y.status.length, y.h2.val y.sems.length, y.h3.val y.onces.length, y.h4.val y.groups.length, y.h5.val y.barriers.length, y.h6.val y.chans.length, (z9).val ((kU y.said v1)).length, .int .i64 y.fault] := by
       rw [hy9]; simp only [aM, hlp, hls, List.length_set]
     have hcl := fun w h => cO y9 w h hsm
     rw [hv] at hcl
     refine aB _ pJ rfl rfl rfl rfl ⟨rfl, rfl⟩ (fun A w hW => hcl w ⟨sE hW (jV y9 (by rw [hy9]; exact fT 0 1 8 9 10 11 3 2 rfl rfl rfl rfl rfl rfl rfl rfl) (by rw [hy9]; exact fun g hg => (iO hg).elim (fun h => inO 12 rfl h) (fun h => by simp only [gM, List.mem_cons, List.not_mem_nil, or_false] at h; rcases h with rfl | rfl | rfl <;> first | exact inF (List.mem_of_getElem? (i := 4) rfl) | exact inF (List.mem_of_getElem? (i := 5) rfl) | exact inF (List.mem_of_getElem? (i := 6) rfl)))), trivial⟩) ?_
     rintro v L ⟨y3, rfl, hy3, rfl⟩
     exact bG [0] ⟨y3, true, rfl, jS hok, fun _ => hy3.trans hP, fun e => z105, rfl⟩ z144 rfl ⟨rfl, trivial⟩ (fun _ => rfl)
   have e1 : ¬ c1 = 1 := by simpa using g
   refine cF _ [0, 1] (G := [_, _]) iY0 rfl rfl rfl rfl ⟨rfl, rfl⟩ rfl rfl ⟨rfl, rfl, trivial⟩ ⟨rfl, rfl, rfl, rfl, trivial⟩ (fun A w ga hga hW hblk => (qF ga _ _ p y _ _ k (c1 != 0) (onM p.pure told (y.pure)) w hblk (hW.atG [0, 1] (G := [_, _]) ⟨rfl, rfl, trivial⟩ rfl ⟨rfl, rfl, rfl, rfl, trivial⟩ [13] (Fo := [_]) z148 rfl) (hW.atG_off z103 hga (ix := [0, 1]) (G := [_, _]) ⟨rfl, rfl, trivial⟩ (jx := [13]) (Fo := [_]) z148) ((aT _ _ _).1.trans rfl) ((aT _ _ _).2.trans rfl) hnm hn hkn (fun x hx => by have := hZ p.pure told y.pure 20 (by omega) hp0 x hx; omega) hn4)) ?_
   rintro v cs L ⟨rfl, rfl, rfl⟩
   have hlp : (cC p.pure (onM p.pure told (y.pure)) k (c1 != 0)).places.length = y.places.length := ((eW _ _ _ _).1.trans ((aT _ _ _).1.trans rfl))
   have hls : (cC p.pure (onM p.pure told (y.pure)) k (c1 != 0)).status.length = y.status.length := ((eW _ _ _ _).2.trans ((aT _ _ _).2.trans rfl))
   refine CaseB.mk (fun g => by cases g) (fun _ => ?_)
   obtain ⟨y9, hy9⟩ : ∃ y9 : StateH, y9 = ⟨(cC p.pure (onM p.pure told (y.pure)) k (c1 != 0)).places, (cC p.pure (onM p.pure told (y.pure)) k (c1 != 0)).status, y.sems, y.onces, y.groups, y.barriers, (y.chans.set op.on.toNat ⟨x1, q0, q1, q2⟩), y.said, y.fault, y.h0, y.h1, y.h2, y.h3, y.h4, y.h5, y.h6, y.h7⟩ := ⟨_, rfl⟩
   have hP : y9.pure = doM p.pure s.pure k := by
     rw [hD2, hpu, hS1, if_neg e1, hy9]
     simp only [StateH.pure, setChan, List.map_set]
   have h64 : (doM p.pure s.pure k).said.length ≤ 64 := by
     rw [← hP, hy9]
     exact hsd
   have hok : StepOk p.pure s.pure k := hso.2 ⟨h64, hwn (by omega)⟩
   have hsm : y9.pure.small20 := by rw [hP]; exact hok.2.2.2.small
   have hv : aM y9 = aM y := by
     rw [hy9]; simp only [aM, hlp, hls, List.length_set]
   have hcl := fun w h => cO y9 w h hsm
   rw [hv] at hcl
   refine aB _ pJ rfl rfl rfl rfl ⟨rfl, rfl⟩ (fun A w hW => hcl w ⟨sE hW (jV y9 z61 (by rw [hy9]; exact fun g hg => (iO hg).elim (fun h => inO 12 rfl h) (fun h => by simp only [gM, List.mem_cons, List.not_mem_nil, or_false] at h; rcases h with rfl | rfl | rfl <;> first | exact inF (List.mem_of_getElem? (i := 3) rfl) | exact inF (List.mem_of_getElem? (i := 4) rfl) | exact inF (List.mem_of_getElem? (i := 5) rfl)))), trivial⟩) ?_
   rintro v L ⟨y3, rfl, hy3, rfl⟩
   exact bG [0] ⟨y3, true, rfl, jS hok, fun _ => hy3.trans hP, fun e => z105, rfl⟩ z144 rfl ⟨rfl, trivial⟩ (fun _ => rfl)
 refine CaseB.mk (fun g => ?_) (fun g10 => ?_)
 rotate_left
 · exfalso
   have := r.ok.1
   have := r.ok.2.1
   simp at g1 g2 g3 g4 g5 g6 g7 g8 g9 g10
   omega
 have hk : op.kind = 10 := by simpa using g
 obtain ⟨x, hx, hxa, hv, hval, hi⟩ := r.chan (by omega)
 have hil : op.on.toNat < s.chans.length := by have := (List.getElem?_eq_some_iff.1 hx).1; simpa [StateH.pure] using this
 have hxe : (s.chans[op.on.toNat]'hil).m = x := by have := hx; simp only [StateH.pure, List.getElem?_map, List.getElem?_eq_getElem hil, Option.map_some, Option.some.injEq] at this; exact this
 subst hxe
 have hjl : op.on.toNat < y.chans.length := by have := congrArg List.length hy6; simp at this; omega
 have hnq := fun u (h : aN (bH s.pure) u = []) => (fA hx (s.chans[op.on.toNat]).m).none h
 have hD : doM p.pure s.pure k = mF p.pure s.pure k op := by rw [hdm, dD, if_neg (by omega), if_neg (by omega), if_neg (by omega), if_neg (by omega), if_neg (by omega), if_neg (by omega), if_neg (by omega), if_neg (by omega), if_neg (by omega)]
 have hsm := hv.small
 obtain ⟨x1, told, o1, hres⟩ : ∃ x1 told o1, (s.chans[op.on.toNat]'hil).m.close = (x1, told, o1) := ⟨_, _, _, rfl⟩
 have htin := xN hv hres
 have htl : told.length ≤ 100 := by omega
 have htold : ∀ u ∈ told, 0 ≤ u ∧ u < (y.places.length : Int) := fun u hu => by
   have := ft.isIn fun h0 => z77
   rw [lt] at this
   omega
 refine aG cN aA rfl rfl rfl rfl rfl ⟨rfl, rfl⟩ (aL 12 rfl (.trans (.R_R (aQ s)) (.ofR aX))) op.on.toNat hi.symm z43 (fun ad5 => ?_)
 refine aB _ cl78 rfl rfl rfl rfl ⟨rfl, rfl⟩ (fun A w hW => mN0 _ _ _ _ w ⟨hW.get 12 rfl (.trans (.R_R (aQ s)) (.ofR (kO _ _ op.on.toNat hil))), hW.get 12 rfl (.trans (.R_R (aQ s)) (.ofR (gJ _ _ op.on.toNat hil))), hW.get 12 rfl (.trans (.R_R (aQ s)) (.ofR (hH _ _ op.on.toNat hil))), trivial⟩ hsm) ?_
 rw [hres]
 rintro v L ⟨q0, q1, q2, z1, rfl, rfl⟩
 apply CaseB.mk <;> intro g
 · have e0 : o1 = false := by simpa using g
   have hF : doM p.pure s.pure k = gK s.pure 4 := by
     rw [hD, mF, hxa, hres]
     simp [e0]
   have hok : StepOk p.pure s.pure k := hso.2 ⟨by rw [hF]; exact ft.lsaid, hwn (by omega)⟩
   refine eG _ [] (G := []) mD0 rfl rfl rfl rfl ⟨rfl, rfl⟩ rfl rfl trivial trivial (fun A w ga hga hW hblk => wG 4 ga s w hblk (hW.atG [] (G := []) trivial rfl trivial [16] (Fo := [_]) z132 rfl) (hW.atG_off z103 hga (ix := []) (G := []) trivial (jx := [16]) (Fo := [_]) z132) hs) ?_
   rintro v cs L ⟨y3, rfl, rfl, hy3, rfl⟩
   exact bG [0] ⟨y3, true, rfl, jS hok, fun _ => hy3.trans hF.symm, fun e => z105, rfl⟩ z144 rfl ⟨rfl, trivial⟩ (fun _ => rfl)
 have e0 : o1 = true := by simpa using g
 refine gG 10 rfl (show 0 < y.chans.length by omega) fun gg hgg _ _ => ?_
 refine aF aA z102 z102 z102 200 [((3, 11), .v (y.h6.val y.chans.length)), ((4, 1), .v (.int .i64 op.on)), ((5, 0), .v (.int .i64 (x1).room)), ((5, 1), .v (q0.val (x1).items.length)), ((5, 2), .v (q1.val (x1).senders.length)), ((5, 3), .v (q2.val (x1).getters.length)), ((5, 4), .v (.bool (x1).closed))] [] [] z112 z127 trivial rfl ?_
 refine jO (ti := aU tab) aA rfl rfl rfl rfl rfl ⟨rfl, rfl⟩ hgg op.on.toNat hi.symm hjl ?_
 refine gH (ti := aU tab) cN 10 aA rfl rfl rfl rfl rfl rfl rfl rfl hgg op.on.toNat 0 ⟨x1, q0, q1, q2⟩ rfl hjl rfl (fH ⟨x1, q0, q1, q2⟩) (fun _ => rfl) z74 z100 ?_
 refine cF _ [5, 6] (G := [_, _]) rT rfl rfl rfl rfl ⟨rfl, rfl⟩ rfl rfl ⟨rfl, rfl, trivial⟩ ⟨rfl, rfl, rfl, rfl, trivial⟩ (fun A w ga hga hW hblk => (jU ga _ _ p y _ _ _ told (y.pure) w hblk (hW.atG [5, 6] (G := [_, _]) ⟨rfl, rfl, trivial⟩ rfl ⟨rfl, rfl, rfl, rfl, trivial⟩ [13, 4] (Fo := [_, _]) z142 rfl) (hW.atG_off z103 hga (ix := [5, 6]) (G := [_, _]) ⟨rfl, rfl, trivial⟩ (jx := [13, 4]) (Fo := [_, _]) z142) rfl rfl hnm hn htold htl hpA hn4)) ?_
 rintro v cs L ⟨rfl, rfl, rfl⟩
 refine AllSl.mk fun zt => ?_
 refine cF _ [1, 2] (G := [_, _]) rT rfl rfl rfl rfl ⟨rfl, rfl⟩ rfl rfl ⟨rfl, rfl, trivial⟩ ⟨rfl, rfl, rfl, rfl, trivial⟩ (fun A w ga hga hW hblk => (jU ga _ _ p y _ _ zt [(k : Int)] (onM p.pure told (y.pure)) w hblk (hW.atG [1, 2] (G := [_, _]) ⟨rfl, rfl, trivial⟩ rfl ⟨rfl, rfl, rfl, rfl, trivial⟩ [14, 0] (Fo := [_, _]) z142 rfl) (hW.atG_off z103 hga (ix := [1, 2]) (G := [_, _]) ⟨rfl, rfl, trivial⟩ (jx := [14, 0]) (Fo := [_, _]) z142) ((aT _ _ _).1.trans rfl) ((aT _ _ _).2.trans rfl) hnm hn hw1 (by simp) (fun x hx => by have := hZ p.pure told y.pure 20 (by omega) hp0 x hx; omega) hn4)) ?_
 rintro v cs L ⟨rfl, rfl, rfl⟩
 have hlp : (onM p.pure [(k : Int)] (onM p.pure told (y.pure))).places.length = y.places.length := ((aT _ _ _).1.trans ((aT _ _ _).1.trans rfl))
 have hls : (onM p.pure [(k : Int)] (onM p.pure told (y.pure))).status.length = y.status.length := ((aT _ _ _).2.trans ((aT _ _ _).2.trans rfl))
 refine CaseB.mk (fun g => by cases g) (fun _ => ?_)
 obtain ⟨y9, hy9⟩ : ∃ y9 : StateH, y9 = ⟨(onM p.pure [(k : Int)] (onM p.pure told (y.pure))).places, (onM p.pure [(k : Int)] (onM p.pure told (y.pure))).status, y.sems, y.onces, y.groups, y.barriers, (y.chans.set op.on.toNat ⟨x1, q0, q1, q2⟩), y.said, y.fault, y.h0, y.h1, y.h2, y.h3, y.h4, y.h5, y.h6, y.h7⟩ := ⟨_, rfl⟩
 have hP : y9.pure = doM p.pure s.pure k := by
   rw [hD, mF, hxa, hres]
   show _ = if o1 = true then onM p.pure (told ++ [(k : Int)]) (setChan s.pure op x1) else gK s.pure 4
   rw [if_pos e0, ← hy, eU p.pure (told ++ [(k : Int)]) y.pure (setChan y.pure op x1) rfl rfl, qY, hy9]
   simp only [StateH.pure, setChan, List.map_set]
 have h64 : (doM p.pure s.pure k).said.length ≤ 64 := by
   rw [← hP, hy9]
   exact hsd
 have hok : StepOk p.pure s.pure k := hso.2 ⟨h64, hwn (by omega)⟩
 have hsm : y9.pure.small20 := by rw [hP]; exact hok.2.2.2.small
 have hv : aM y9 = aM y := by
   rw [hy9]; simp only [aM, hlp, hls, List.length_set]
 have hcl := fun w h => cO y9 w h hsm
 rw [hv] at hcl
 refine aB _ pJ rfl rfl rfl rfl ⟨rfl, rfl⟩ (fun A w hW => hcl w ⟨sE hW (jV y9 (by rw [hy9]; exact fT 0 1 8 9 10 11 3 12 rfl rfl rfl rfl rfl rfl rfl rfl) (by rw [hy9]; exact fun g hg => (iO hg).elim (fun h => inO 13 rfl h) (fun h => by simp only [gM, List.mem_cons, List.not_mem_nil, or_false] at h; rcases h with rfl | rfl | rfl <;> first | exact inF (List.mem_of_getElem? (i := 4) rfl) | exact inF (List.mem_of_getElem? (i := 5) rfl) | exact inF (List.mem_of_getElem? (i := 6) rfl)))), trivial⟩) ?_
 rintro v L ⟨y3, rfl, hy3, rfl⟩
 exact bG [0] ⟨y3, true, rfl, jS hok, fun _ => hy3.trans hP, fun e => z105, rfl⟩ z144 rfl ⟨rfl, trivial⟩ (fun _ => rfl)
theorem cX0 (p : ProgH) (t c : Int) (k : Nat) (hk : k < p.threads.length) (ht : t = (k : Int)) (w : World) (h : At w [fR (aY p)]) :
   Calls Tryz.prog 107 #[dW p, .int .i64 t, .int .i64 c] w (Ret w fun v L => v = .int .i64 (if c = ((p.threads[k]).m.length : Int) then 3 else 0) ∧ L = []) := by
 refine gQ Tryz.func107 rfl aA w _ rfl _ rfl _ h ⟨rfl, rfl, trivial⟩ _ _ _ (by decide) ?_
 refine aG dT aA rfl rfl rfl rfl rfl ⟨rfl, rfl⟩ (aL 0 rfl (.trans (.R_R (bB p)) (.ofR aX))) k (ht) z43 (fun ad => ?_)
 apply CaseB.mk <;> intro g
 · have q : c = ((p.threads[k]).m.length : Int) := by simpa using g
   exact aH ⟨by rw [if_pos q], rfl⟩ (fun _ => rfl)
 · have q : ¬ c = ((p.threads[k]).m.length : Int) := by simpa using g
   exact aH ⟨by rw [if_neg q], rfl⟩ (fun _ => rfl)
theorem kQ0 (n : Int) (h0 : 1 ≤ n) (h1 : n ≤ 9) (w : World) : Calls Tryz.prog 108 #[.int .i64 n] w (Ret w fun v L => ∃ y : Sl, v = .tuple #[oC ⟨n, n, []⟩ y, .bool true] ∧ L = [own y 184 bV 2 ([] : List Waiter)]) := by
 refine bZ Tryz.func108 rfl aA w _ rfl _ rfl [] trivial trivial _ (by decide) ?_
 refine CaseB.mk (fun g => by simp at g; omega) (fun g => ?_)
 refine CaseB.mk (fun g => by simp at g; omega) (fun g => ?_)
 refine AllSl.mk fun y => ?_
 exact bG [0] ⟨y, rfl, rfl⟩ z144 rfl ⟨rfl, trivial⟩ (fun _ => rfl)
theorem aY0 (n : Int) (h0 : 1 ≤ n) (h1 : n ≤ 6) (w : World) : Calls Tryz.prog 109 #[.int .i64 n] w (Ret w fun v L => ∃ y : Sl, v = .tuple #[jE ⟨n, 0, []⟩ y, .bool true] ∧ L = [own y 3 aJ 1 ([] : List Int)]) := by
 refine bZ Tryz.func109 rfl aA w _ rfl _ rfl [] trivial trivial _ (by decide) ?_
 refine CaseB.mk (fun g => by simp at g; omega) (fun g => ?_)
 refine CaseB.mk (fun g => by simp at g; omega) (fun g => ?_)
 refine AllSl.mk fun y => ?_
 exact bG [0] ⟨y, rfl, rfl⟩ z144 rfl ⟨rfl, trivial⟩ (fun _ => rfl)
theorem hR0 (n : Int) (h0 : 0 ≤ n) (h1 : n ≤ 4) (w : World) : Calls Tryz.prog 110 #[.int .i64 n] w (Ret w fun v L => ∃ y z u : Sl, v = .tuple #[iZ ⟨n, [], [], [], false⟩ y z u, .bool true] ∧ L = [own y 3 aJ 1 ([] : List Int), own z 187 fX 2 ([] : List Letter), own u 3 aJ 1 ([] : List Int)]) := by
 refine bZ Tryz.func110 rfl aA w _ rfl _ rfl [] trivial trivial _ (by decide) ?_
 refine CaseB.mk (fun g => by simp at g; omega) (fun g => ?_)
 refine CaseB.mk (fun g => by simp at g; omega) (fun g => ?_)
 refine AllSl.mk fun y => ?_
 refine AllSl.mk fun z => ?_
 refine AllSl.mk fun u => ?_
 exact bG [2, 1, 0] ⟨y, z, u, rfl, rfl⟩ z128 rfl ⟨rfl, rfl, rfl, trivial⟩ (fun _ => rfl)
theorem aZ0 (p : ProgH) (w : World) (h : At w [fR (aY p)]) (hs : p.sems.length ≤ 1048576 ∧ p.groups.length ≤ 1048576 ∧ p.barriers.length ≤ 1048576 ∧ p.rooms.length ≤ 1048576) :
   Calls Tryz.prog 46 #[dW p] w (Ret w (Started p.pure)) := by
 refine bZ Tryz.func46 rfl aA w _ rfl _ rfl _ h ⟨rfl, rfl, trivial⟩ _ (by decide) ?_
 refine aB _ fH0 rfl rfl rfl rfl ⟨rfl, rfl⟩ (fun A w hW => mE p w ⟨hW.get 0 rfl (.refl _), trivial⟩ hs) ?_
 rintro v L ⟨b, rfl, hb, rfl⟩
 apply CaseB.mk <;> intro g
 · have hn : ¬ ProgOk p.pure := fun e => by rw [hb.2 e] at g; cases g
   refine aO (.joinO [90] (Gs := [_]) ⟨.inr ⟨Nat.le_of_ble_eq_true rfl, dU⟩, trivial⟩ rfl (G := aK StateH.zero) (.of_eq (by simp))) ?_
   exact bG [0] ⟨StateH.zero, false, rfl, tno hn, fun e => z105, fun _ => rfl, rfl⟩ z144 rfl ⟨rfl, trivial⟩ (fun _ => rfl)
 have ok := hb.1 z98
 have n4 : p.threads.length ≤ 4 := by have := ok.n4; simpa [ProgH.pure] using this
 have m0 : p.sems.length ≤ 3 := ok.sems.1
 have m1 : p.groups.length ≤ 3 := ok.groups.1
 have m2 : p.barriers.length ≤ 3 := ok.barriers.1
 have m3 : p.rooms.length ≤ 3 := ok.rooms.1
 obtain ⟨LP, hLP⟩ : ∃ l, l = p.threads.map (fun _ => (0 : Int)) := ⟨_, rfl⟩
 obtain ⟨LS, hLS⟩ : ∃ l, l = p.threads.map (fun x => rest x.m) := ⟨_, rfl⟩
 have lP : LP.length = p.threads.length := by rw [hLP]; simp
 have lS : LS.length = p.threads.length := by rw [hLS]; simp
 refine LoopW.mk ⟨{ q : Nat × Sl × Sl // q.1 ≤ p.threads.length },
   fun q => .mk [(1, .p 0 0), (2, .p 1 0), (4, .p 2 0), (5, .v (.int .i64 (q.1.1 : Int)))] 3 0 [(0, 26, 5), (1, 35, 9), (2, 35, 9)]
     [((0, 0), .v (p.h0.val p.sems.length)), ((0, 1), .v (p.h1.val p.groups.length)), ((0, 2), .v (p.h2.val p.barriers.length)), ((0, 3), .v (p.h3.val p.rooms.length)), ((0, 4), .v (p.h4.val p.threads.length)), ((2, 0), .v (q.1.2.1.val (LP.take q.1.1).length)), ((2, 1), .v (q.1.2.2.val (LS.take q.1.1).length)), ((2, 2), .v (.slice none 0 0)), ((2, 3), .v (.slice none 0 0)), ((2, 4), .v (.slice none 0 0)), ((2, 5), .v (.slice none 0 0)), ((2, 6), .v (.slice none 0 0)), ((2, 7), .v (.slice none 0 0)), ((2, 8), .v (.int .i64 0))]
     [own q.1.2.1 3 aJ 1 (LP.take q.1.1), own q.1.2.2 3 aJ 1 (LS.take q.1.1), fR (aY p)],
   fun q => p.threads.length - q.1.1, ⟨(0, ⟨none, 0⟩, ⟨none, 0⟩), Nat.zero_le _⟩, ?_, ?_⟩
 · exact aC [99, 98, 0] zw2 zw0 zw2 zw5 zw4 rfl rfl
 rintro ⟨⟨k, a, s⟩, hk⟩
 simp only at hk
 apply CaseB.mk <;> intro g
 · have hlt : k < p.threads.length := by simpa using g
   have eP : LP.take k ++ [0] = LP.take (k + 1) := by rw [hLP]; exact aR hlt rfl rfl
   have eS : ∀ x, x = rest (p.threads[k]).m → LS.take k ++ [x] = LS.take (k + 1) := fun x hx => by rw [hLS]; exact aR hlt rfl hx
   have hw := bD k _ hlt (by omega)
   refine AllSl.mk fun u => ?_
   refine bQ aE 1 aA (ys := [0]) rfl rfl rfl rfl rfl rfl rfl rfl rfl (by decide) ⟨rfl, rfl⟩ rfl z35 z43 z43 (fun a2 => ?_)
   rw [eP]
   have hr : (if (0 : Int) = ((p.threads[k]).m.length : Int) then (3 : Int) else 0) = rest (p.threads[k]).m := by
     simp only [rest]
     by_cases h0 : (p.threads[k]).m.length = 0
     · simp [h0]
     · rw [if_neg h0, if_neg (by omega)]
   refine aF aA z102 z102 z102 200 [((0, 0), .v (p.h0.val p.sems.length)), ((0, 1), .v (p.h1.val p.groups.length)), ((0, 2), .v (p.h2.val p.barriers.length)), ((0, 3), .v (p.h3.val p.rooms.length)), ((0, 4), .v (p.h4.val p.threads.length))] [3] [_] z117 z133 ⟨rfl, trivial⟩ rfl ?_
   refine BothW.mk ?_ ?_
   all_goals
     refine bN _ nG0 rfl rfl rfl rfl ⟨rfl, rfl⟩ (fun A w hW => cX0 p _ 0 k hlt rfl w ⟨hW.get 3 rfl (.refl _), trivial⟩) ?_
     rintro v L ⟨rfl, rfl⟩
     rw [hr]
   rotate_left
   · refine BothW.mk ?_ ?_
     all_goals
       refine AllSl.mk fun u2 => ?_
       refine bR (ti := aU tab) aE 3 aA (ys := [rest (p.threads[k]).m]) rfl rfl rfl rfl rfl rfl rfl rfl rfl (by decide) ⟨rfl, rfl⟩ rfl z35 z43 z43 z100 (fun s2 => ?_)
       rw [eS _ rfl]
       refine ⟨⟨(k + 1, a2, s2), by omega⟩, ?_, by simp only; omega⟩
       exact aC [2, 0, 4] zw1 zw0 zw1 zw5 zw3 rfl rfl
   refine AllSl.mk fun u2 => ?_
   refine bR (ti := aU tab) aE 3 aA (ys := [rest (p.threads[k]).m]) rfl rfl rfl rfl rfl rfl rfl rfl rfl (by decide) ⟨rfl, rfl⟩ rfl z35 z43 z43 z100 (fun s2 => ?_)
   rw [eS _ rfl]
   refine ⟨⟨(k + 1, a2, s2), by omega⟩, ?_, by simp only; omega⟩
   exact aC [2, 0, 4] zw1 zw0 zw1 zw5 zw3 rfl rfl
 have hge : p.threads.length ≤ k := by simpa using g
 have eP : LP.take k = LP := List.take_of_length_le (by omega)
 have eS : LS.take k = LS := List.take_of_length_le (by omega)
 refine LoopW.mk ⟨{ q : Nat × Sl × List SemH // q.1 ≤ p.sems.length ∧ q.2.2.map (·.m) = (p.sems.map fun n => (⟨n, n, []⟩ : Sem)).take q.1 },
   fun q => .mk [(1, .p 0 0), (2, .p 1 0), (4, .p 2 0), (6, .v (.int .i64 (q.1.1 : Int)))] 3 0 [(0, 26, 5), (1, 35, 9), (2, 35, 9)]
     [((0, 0), .v (p.h0.val p.sems.length)), ((0, 1), .v (p.h1.val p.groups.length)), ((0, 2), .v (p.h2.val p.barriers.length)), ((0, 3), .v (p.h3.val p.rooms.length)), ((0, 4), .v (p.h4.val p.threads.length)), ((2, 0), .v (a.val LP.length)), ((2, 1), .v (s.val LS.length)), ((2, 2), .v (q.1.2.1.val q.1.2.2.length)), ((2, 3), .v (.slice none 0 0)), ((2, 4), .v (.slice none 0 0)), ((2, 5), .v (.slice none 0 0)), ((2, 6), .v (.slice none 0 0)), ((2, 7), .v (.slice none 0 0)), ((2, 8), .v (.int .i64 0))]
     [own q.1.2.1 95 gI 3 q.1.2.2, fO (q.1.2.2.flatMap oD), own a 3 aJ 1 LP, own s 3 aJ 1 LS, fR (aY p)],
   fun q => p.sems.length - q.1.1, ⟨(0, ⟨none, 0⟩, []), Nat.zero_le _, by simp⟩, ?_, ?_⟩
 · refine aP (.joinO [] (Gs := []) trivial rfl (.refl _)) ?_
   exact aC [99, 0, 1, 2, 3] zw14 zw0 zw14 zw5 zw29 rfl rfl
 rintro ⟨⟨k0, c0, l0⟩, hk, hl0⟩
 simp only at hk hl0
 have ln0 : l0.length = k0 := by have := congrArg List.length hl0; simp at this; omega
 apply CaseB.mk <;> intro g
 · have hlt : k0 < p.sems.length := by simpa using g
   have hw := bD k0 _ hlt (by omega)
   have hv := ok.sems.2 _ (List.getElem_mem hlt)
   refine aG aE aA rfl rfl rfl rfl rfl ⟨rfl, rfl⟩ (aL 4 rfl (.ofR (eM p))) k0 rfl z43 (fun ad => ?_)
   refine aB _ cl108 rfl rfl rfl rfl ⟨rfl, rfl⟩ (fun A w hW => kQ0 _ hv.1 hv.2 w) ?_
   rintro v L ⟨y, rfl, rfl⟩
   refine AllSl.mk fun r => ?_
   generalize hx : (⟨⟨p.sems[k0], p.sems[k0], []⟩, y⟩ : SemH) = x
   have hxm : x.m = ⟨p.sems[k0], p.sems[k0], []⟩ := by rw [← hx]
   refine bQ cZ 2 aA (ys := [x]) rfl rfl rfl rfl rfl (by rw [← hx]; rfl) rfl rfl rfl (by decide) ⟨rfl, rfl⟩ rfl (by rw [← hx]; exact bX 0 rfl) z78 z69 (fun c' => ?_)
   refine ⟨⟨(k0 + 1, c', l0 ++ [x]), by omega, by rw [List.map_append]; exact aR hlt hl0 hxm⟩, ?_, by simp only; omega⟩
   refine aP (.joinO [2, 3] (Gs := [[_], _]) z136 rfl (G := (l0 ++ [x]).flatMap oD) (by subst hx; rw [List.flatMap_append]; exact (List.Perm.of_eq (by simp [oD])).trans List.perm_append_comm)) ?_
   exact aC [1, 0, 3, 4, 5] zw1 zw0 zw1 zw5 zw3 rfl rfl
 have hge0 : p.sems.length ≤ k0 := by simpa using g
 have m0' : l0.map (·.m) = p.sems.map fun n => (⟨n, n, []⟩ : Sem) := by rw [hl0, List.take_of_length_le (by simpa using hge0)]
 refine LoopW.mk ⟨{ q : Nat × Sl // q.1 ≤ 3 },
   fun q => .mk [(1, .p 0 0), (2, .p 1 0), (4, .p 2 0), (9, .v (.int .i64 (q.1.1 : Int)))] 3 0 [(0, 26, 5), (1, 35, 9), (2, 35, 9)]
     [((0, 0), .v (p.h0.val p.sems.length)), ((0, 1), .v (p.h1.val p.groups.length)), ((0, 2), .v (p.h2.val p.barriers.length)), ((0, 3), .v (p.h3.val p.rooms.length)), ((0, 4), .v (p.h4.val p.threads.length)), ((2, 0), .v (a.val LP.length)), ((2, 1), .v (s.val LS.length)), ((2, 2), .v (c0.val l0.length)), ((2, 3), .v (q.1.2.val (List.replicate q.1.1 cU).length)), ((2, 4), .v (.slice none 0 0)), ((2, 5), .v (.slice none 0 0)), ((2, 6), .v (.slice none 0 0)), ((2, 7), .v (.slice none 0 0)), ((2, 8), .v (.int .i64 0))]
     [own q.1.2 102 eD 4 (List.replicate q.1.1 cU), own c0 95 gI 3 l0, fO (l0.flatMap oD), own a 3 aJ 1 LP, own s 3 aJ 1 LS, fR (aY p)],
   fun q => 3 - q.1.1, ⟨(0, ⟨none, 0⟩), Nat.zero_le _⟩, ?_, ?_⟩
 · exact aC [99, 0, 1, 2, 3, 4] zw2 zw0 zw2 zw5 zw4 rfl rfl
 rintro ⟨⟨k1, c1⟩, hk⟩
 simp only at hk
 apply CaseB.mk <;> intro g
 · have hlt : k1 < 3 := by have g' := of_decide_eq_true g; simp only at g'; omega
   have hw := bD k1 3 hlt (by omega)
   refine AllSl.mk fun u => ?_
   refine bQ cX 1 aA (ys := [cU]) rfl rfl rfl rfl rfl rfl rfl rfl rfl (by decide) ⟨rfl, rfl⟩ rfl z35 z43 z43 (fun c' => ?_)
   rw [← List.replicate_succ']
   refine ⟨⟨(k1 + 1, c'), by omega⟩, ?_, by simp only; omega⟩
   exact aC [0, 2, 3, 4, 5, 6] zw1 zw0 zw1 zw5 zw3 rfl rfl
 have hge1 : k1 = 3 := by have g' := of_decide_eq_false g; simp only at g'; omega
 have e1 : List.replicate k1 cU = [cU, cU, cU] := by rw [hge1]; rfl
 obtain ⟨L2, hL2⟩ : ∃ l, l = p.groups.map (fun n => (⟨⟨n, []⟩, ⟨none, 0⟩⟩ : GroupH)) := ⟨_, rfl⟩
 have lenL2 : L2.length = p.groups.length := by rw [hL2]; simp
 refine LoopW.mk ⟨{ q : Nat × Sl // q.1 ≤ p.groups.length },
   fun q => .mk [(1, .p 0 0), (2, .p 1 0), (4, .p 2 0), (10, .v (.int .i64 (q.1.1 : Int)))] 3 0 [(0, 26, 5), (1, 35, 9), (2, 35, 9)]
     [((0, 0), .v (p.h0.val p.sems.length)), ((0, 1), .v (p.h1.val p.groups.length)), ((0, 2), .v (p.h2.val p.barriers.length)), ((0, 3), .v (p.h3.val p.rooms.length)), ((0, 4), .v (p.h4.val p.threads.length)), ((2, 0), .v (a.val LP.length)), ((2, 1), .v (s.val LS.length)), ((2, 2), .v (c0.val l0.length)), ((2, 3), .v (c1.val [cU, cU, cU].length)), ((2, 4), .v (q.1.2.val (L2.take q.1.1).length)), ((2, 5), .v (.slice none 0 0)), ((2, 6), .v (.slice none 0 0)), ((2, 7), .v (.slice none 0 0)), ((2, 8), .v (.int .i64 0))]
     [own q.1.2 108 dR 2 (L2.take q.1.1), own c1 102 eD 4 [cU, cU, cU], own c0 95 gI 3 l0, fO (l0.flatMap oD), own a 3 aJ 1 LP, own s 3 aJ 1 LS, fR (aY p)],
   fun q => p.groups.length - q.1.1, ⟨(0, ⟨none, 0⟩), Nat.zero_le _⟩, ?_, ?_⟩
 · exact aC [99, 0, 1, 2, 3, 4, 5] zw16 zw0 zw16 zw5 zw31 rfl rfl
 rintro ⟨⟨k2, c2⟩, hk⟩
 simp only at hk
 apply CaseB.mk <;> intro g
 · have hlt : k2 < p.groups.length := by simpa using g
   have e : ∀ x, x = (⟨⟨p.groups[k2], []⟩, ⟨none, 0⟩⟩ : GroupH) → L2.take k2 ++ [x] = L2.take (k2 + 1) := fun x hx => by rw [hL2]; exact aR hlt rfl hx
   have hw := bD k2 _ hlt (by omega)
   refine aF aA z102 z102 z102 200 [((0, 0), .v (p.h0.val p.sems.length)), ((0, 1), .v (p.h1.val p.groups.length)), ((0, 2), .v (p.h2.val p.barriers.length)), ((0, 3), .v (p.h3.val p.rooms.length)), ((0, 4), .v (p.h4.val p.threads.length))] [6] [_] z117 z133 ⟨rfl, trivial⟩ rfl ?_
   refine bO (ti := aU tab) aE aA rfl rfl rfl rfl rfl ⟨rfl, rfl⟩ (aL 0 rfl (.ofR (iW p))) k2 rfl z43 (fun ad => ?_)
   refine BothW.mk ?_ ?_
   all_goals
     refine AllSl.mk fun u => ?_
     refine bR (ti := aU tab) cI 1 aA (ys := [⟨⟨p.groups[k2], []⟩, ⟨none, 0⟩⟩]) rfl rfl rfl rfl rfl rfl rfl rfl rfl (by decide) ⟨rfl, rfl⟩ rfl z35 z43 z43 z100 (fun c' => ?_)
     rw [e _ rfl]
     refine ⟨⟨(k2 + 1, c'), by omega⟩, ?_, by simp only; omega⟩
     exact aC [0, 2, 3, 4, 5, 6, 7] zw1 zw0 zw1 zw5 zw3 rfl rfl
 have hge2 : p.groups.length ≤ k2 := by simpa using g
 have e2 : L2.take k2 = L2 := List.take_of_length_le (by omega)
 refine LoopW.mk ⟨{ q : Nat × Sl × List BarrierH // q.1 ≤ p.barriers.length ∧ q.2.2.map (·.m) = (p.barriers.map fun n => (⟨n, 0, []⟩ : Barrier)).take q.1 },
   fun q => .mk [(1, .p 0 0), (2, .p 1 0), (4, .p 2 0), (11, .v (.int .i64 (q.1.1 : Int)))] 3 0 [(0, 26, 5), (1, 35, 9), (2, 35, 9)]
     [((0, 0), .v (p.h0.val p.sems.length)), ((0, 1), .v (p.h1.val p.groups.length)), ((0, 2), .v (p.h2.val p.barriers.length)), ((0, 3), .v (p.h3.val p.rooms.length)), ((0, 4), .v (p.h4.val p.threads.length)), ((2, 0), .v (a.val LP.length)), ((2, 1), .v (s.val LS.length)), ((2, 2), .v (c0.val l0.length)), ((2, 3), .v (c1.val [cU, cU, cU].length)), ((2, 4), .v (c2.val L2.length)), ((2, 5), .v (q.1.2.1.val q.1.2.2.length)), ((2, 6), .v (.slice none 0 0)), ((2, 7), .v (.slice none 0 0)), ((2, 8), .v (.int .i64 0))]
     [own q.1.2.1 114 dA 3 q.1.2.2, fO (q.1.2.2.flatMap eC), own c2 108 dR 2 L2, own c1 102 eD 4 [cU, cU, cU], own c0 95 gI 3 l0, fO (l0.flatMap oD), own a 3 aJ 1 LP, own s 3 aJ 1 LS, fR (aY p)],
   fun q => p.barriers.length - q.1.1, ⟨(0, ⟨none, 0⟩, []), Nat.zero_le _, by simp⟩, ?_, ?_⟩
 · refine aP (.joinO [] (Gs := []) trivial rfl (.refl _)) ?_
   exact aC [99, 0, 1, 2, 3, 4, 5, 6, 7] zw17 zw0 zw17 zw5 zw32 rfl rfl
 rintro ⟨⟨k3, c3, l3⟩, hk, hl3⟩
 simp only at hk hl3
 have ln3 : l3.length = k3 := by have := congrArg List.length hl3; simp at this; omega
 apply CaseB.mk <;> intro g
 · have hlt : k3 < p.barriers.length := by simpa using g
   have hw := bD k3 _ hlt (by omega)
   have hv := ok.barriers.2 _ (List.getElem_mem hlt)
   refine aG aE aA rfl rfl rfl rfl rfl ⟨rfl, rfl⟩ (aL 8 rfl (.ofR (eH p))) k3 rfl z43 (fun ad => ?_)
   refine aB _ cl109 rfl rfl rfl rfl ⟨rfl, rfl⟩ (fun A w hW => aY0 _ hv.1 hv.2 w) ?_
   rintro v L ⟨y, rfl, rfl⟩
   refine AllSl.mk fun r => ?_
   generalize hx : (⟨⟨p.barriers[k3], 0, []⟩, y⟩ : BarrierH) = x
   have hxm : x.m = ⟨p.barriers[k3], 0, []⟩ := by rw [← hx]
   refine bQ cA 2 aA (ys := [x]) rfl rfl rfl rfl rfl (by rw [← hx]; rfl) rfl rfl rfl (by decide) ⟨rfl, rfl⟩ rfl (by rw [← hx]; exact bX 0 rfl) z78 z69 (fun c' => ?_)
   refine ⟨⟨(k3 + 1, c', l3 ++ [x]), by omega, by rw [List.map_append]; exact aR hlt hl3 hxm⟩, ?_, by simp only; omega⟩
   refine aP (.joinO [2, 3] (Gs := [[_], _]) z136 rfl (G := (l3 ++ [x]).flatMap eC) (by subst hx; rw [List.flatMap_append]; exact (List.Perm.of_eq (by simp [eC])).trans List.perm_append_comm)) ?_
   exact aC [1, 0, 3, 4, 5, 6, 7, 8, 9] zw1 zw0 zw1 zw5 zw3 rfl rfl
 have hge3 : p.barriers.length ≤ k3 := by simpa using g
 have m3' : l3.map (·.m) = p.barriers.map fun n => (⟨n, 0, []⟩ : Barrier) := by rw [hl3, List.take_of_length_le (by simpa using hge3)]
 refine LoopW.mk ⟨{ q : Nat × Sl × List ChanH // q.1 ≤ p.rooms.length ∧ q.2.2.map (·.m) = (p.rooms.map fun n => (⟨n, [], [], [], false⟩ : Chan)).take q.1 },
   fun q => .mk [(1, .p 0 0), (2, .p 1 0), (4, .p 2 0), (14, .v (.int .i64 (q.1.1 : Int)))] 3 0 [(0, 26, 5), (1, 35, 9), (2, 35, 9)]
     [((0, 0), .v (p.h0.val p.sems.length)), ((0, 1), .v (p.h1.val p.groups.length)), ((0, 2), .v (p.h2.val p.barriers.length)), ((0, 3), .v (p.h3.val p.rooms.length)), ((0, 4), .v (p.h4.val p.threads.length)), ((2, 0), .v (a.val LP.length)), ((2, 1), .v (s.val LS.length)), ((2, 2), .v (c0.val l0.length)), ((2, 3), .v (c1.val [cU, cU, cU].length)), ((2, 4), .v (c2.val L2.length)), ((2, 5), .v (c3.val l3.length)), ((2, 6), .v (q.1.2.1.val q.1.2.2.length)), ((2, 7), .v (.slice none 0 0)), ((2, 8), .v (.int .i64 0))]
     [own q.1.2.1 119 fH 5 q.1.2.2, fO (q.1.2.2.flatMap gM), own c3 114 dA 3 l3, fO (l3.flatMap eC), own c2 108 dR 2 L2, own c1 102 eD 4 [cU, cU, cU], own c0 95 gI 3 l0, fO (l0.flatMap oD), own a 3 aJ 1 LP, own s 3 aJ 1 LS, fR (aY p)],
   fun q => p.rooms.length - q.1.1, ⟨(0, ⟨none, 0⟩, []), Nat.zero_le _, by simp⟩, ?_, ?_⟩
 · refine aP (.joinO [] (Gs := []) trivial rfl (.refl _)) ?_
   exact aC [99, 0, 1, 2, 3, 4, 5, 6, 7, 8, 9] zw2 zw0 zw2 zw5 zw4 rfl rfl
 rintro ⟨⟨k4, c4, l4⟩, hk, hl4⟩
 simp only at hk hl4
 have ln4 : l4.length = k4 := by have := congrArg List.length hl4; simp at this; omega
 apply CaseB.mk <;> intro g
 · have hlt : k4 < p.rooms.length := by simpa using g
   have hw := bD k4 _ hlt (by omega)
   have hv := ok.rooms.2 _ (List.getElem_mem hlt)
   refine aG aE aA rfl rfl rfl rfl rfl ⟨rfl, rfl⟩ (aL 10 rfl (.ofR (gN p))) k4 rfl z43 (fun ad => ?_)
   refine aB _ cl110 rfl rfl rfl rfl ⟨rfl, rfl⟩ (fun A w hW => hR0 _ hv.1 hv.2 w) ?_
   rintro v L ⟨y, z, u, rfl, rfl⟩
   refine AllSl.mk fun r => ?_
   generalize hx : (⟨⟨p.rooms[k4], [], [], [], false⟩, y, z, u⟩ : ChanH) = x
   have hxm : x.m = ⟨p.rooms[k4], [], [], [], false⟩ := by rw [← hx]
   refine bQ cN 4 aA (ys := [x]) rfl rfl rfl rfl rfl (by rw [← hx]; rfl) rfl rfl rfl (by decide) ⟨rfl, rfl⟩ rfl (by rw [← hx]; exact bX 0 rfl) z78 z69 (fun c' => ?_)
   refine ⟨⟨(k4 + 1, c', l4 ++ [x]), by omega, by rw [List.map_append]; exact aR hlt hl4 hxm⟩, ?_, by simp only; omega⟩
   refine aP (.joinO [2, 3, 4, 5] (Gs := [[_], [_], [_], _]) z120 rfl (G := (l4 ++ [x]).flatMap gM) (by subst hx; rw [List.flatMap_append]; exact (List.Perm.of_eq (by simp [gM])).trans List.perm_append_comm)) ?_
   exact aC [1, 0, 3, 4, 5, 6, 7, 8, 9, 10, 11] zw1 zw0 zw1 zw5 zw3 rfl rfl
 have hge4 : p.rooms.length ≤ k4 := by simpa using g
 have m4' : l4.map (·.m) = p.rooms.map fun n => (⟨n, [], [], [], false⟩ : Chan) := by rw [hl4, List.take_of_length_le (by simpa using hge4)]
 generalize hy : (⟨LP, LS, l0, [cU, cU, cU], L2, l3, l4, [], 0, a, s, c0, c1, c2, c3, c4, ⟨none, 0⟩⟩ : StateH) = Y
 have nil1 : ∀ g ∈ L2.flatMap jD, dQ g := xD fun x hx g hg => by
   rw [hL2] at hx; obtain ⟨n, _, rfl⟩ := List.mem_map.1 hx; simp [jD] at hg; subst hg; exact ⟨rfl, rfl, rfl, rfl⟩
 have hU : ∀ g ∈ [cU, cU, cU].flatMap mW, dQ g := xD fun x hx g hg => by
   simp at hx; subst hx; simp [mW, cU] at hg; subst hg; exact ⟨rfl, rfl, rfl, rfl⟩
 have nil5 : ∀ g ∈ [own ⟨none, 0⟩ 3 aJ 1 ([] : List Int)], dQ g := fun g hg => by
   simp at hg; subst hg; exact ⟨rfl, rfl, rfl, rfl⟩
 refine aO (.joinO [8, 9, 6, 7, 5, 90, 4, 91, 2, 3, 0, 1, 92] (Gs := [[_], [_], [_], _, [_], _, [_], _, [_], _, [_], _, _])
   ⟨.inl ⟨_, rfl, .own⟩, .inl ⟨_, rfl, .own⟩, .inl ⟨_, rfl, .own⟩, .inl ⟨_, rfl, .o⟩, .inl ⟨_, rfl, .own⟩, .inr ⟨Nat.le_of_ble_eq_true rfl, hU⟩, .inl ⟨_, rfl, .own⟩, .inr ⟨Nat.le_of_ble_eq_true rfl, nil1⟩, .inl ⟨_, rfl, .own⟩, .inl ⟨_, rfl, .o⟩, .inl ⟨_, rfl, .own⟩, .inl ⟨_, rfl, .o⟩, .inr ⟨Nat.le_of_ble_eq_true rfl, nil5⟩, trivial⟩ rfl (G := aK Y) (.of_eq z56)) ?_
 have hYp : Y.pure = start p.pure := by
   rw [← hy]
   simp only [StateH.pure, start, ProgH.pure, hLP, hLS, hL2, m0', m3', m4']
   simp [cU]
 exact bG [0] ⟨Y, true, by rw [← hy], jS ok, fun _ => hYp, fun e => z105, rfl⟩ z144 rfl ⟨rfl, trivial⟩ (fun _ => rfl)
theorem mG {xs : List Int} {lo hi : Int} (h : iL xs lo hi) : xs.length ≤ 1048576 := Nat.le_trans h.1 (by decide)
theorem lR {p : Prog} (ok : ProgOk p) : (start p).small20 := by
 have h1 := mG ok.sems
 have h2 := mG ok.groups
 have h3 := mG ok.barriers
 have h4 := mG ok.rooms
 have h5 := ok.n4
 refine ⟨by simp [start]; omega, by simp [start]; omega, ⟨by simp [start]; omega, ?_⟩, ⟨by simp [start], ?_⟩, ⟨by simp [start]; omega, ?_⟩, ⟨by simp [start]; omega, ?_⟩, ⟨by simp [start]; omega, ?_⟩, by simp [start]⟩
 · intro x hx; obtain ⟨n, _, rfl⟩ := List.mem_map.1 hx; simp [Sem.small20]
 · intro x hx; simp [start] at hx; subst hx; simp [Once.small20]
 · intro x hx; obtain ⟨n, _, rfl⟩ := List.mem_map.1 hx; simp [Group.small20]
 · intro x hx; obtain ⟨n, _, rfl⟩ := List.mem_map.1 hx; simp [Barrier.small20]
 · intro x hx; obtain ⟨n, _, rfl⟩ := List.mem_map.1 hx; simp [Chan.small20]
theorem tO : State.zero.small20 := by
 refine ⟨by simp [State.zero], by simp [State.zero], ⟨by simp [State.zero], ?_⟩, ⟨by simp [State.zero], ?_⟩, ⟨by simp [State.zero], ?_⟩, ⟨by simp [State.zero], ?_⟩, ⟨by simp [State.zero], ?_⟩, by simp [State.zero]⟩
 all_goals
   intro x hx
   simp [State.zero] at hx
theorem Started.one (p : Prog) : ∃ (S : State) (c : Bool), S.small20 ∧ ∀ (y : StateH) (b : Bool), (b = true ↔ ProgOk p) → (b = true → y.pure = start p) → (b = false → y.pure = State.zero) → y.pure = S ∧ b = c := by
 by_cases ok : ProgOk p
 · refine ⟨start p, true, lR ok, fun y b h1 h2 _ => ?_⟩
   have := h1.2 ok
   exact ⟨h2 this, this⟩
 · refine ⟨State.zero, false, tO, fun y b h1 _ h3 => ?_⟩
   cases b with
   | true => exact (ok (h1.1 rfl)).elim
   | false => exact ⟨h3 rfl, rfl⟩
theorem xO {a : ProgH} (h : a.pure.small20) : a.sems.length ≤ 1048576 ∧ a.groups.length ≤ 1048576 ∧ a.barriers.length ≤ 1048576 ∧ a.rooms.length ≤ 1048576 := ⟨h.1, h.2.1, h.2.2.1, h.2.2.2.1⟩
theorem mQ0 {E : Env} {o : Oper} {Ms : List ((Nat × Nat) × SV)} {Fs : List Fct} {next : St → Prop} {T : List (Nat × SV)} {n c : Nat} {B : List (Nat × TypeId × Nat)} {M : List ((Nat × Nat) × SV)} {F : List Fct}
   (R : Value → List Fct → Prop) {k : Call} {fo : Operand} {g : FuncId} {cap : Array Value} {l : List SV} {d : Nat} (hc : aD E.P g = true)
   (hop : o.op = .call k) (hk : k.callee = .value fo) (hf : bF T fo = some (.v (.func (.func g) #[] cap))) (ha : jB T k.args.toList = some l) (hd : Dst E o d)
   (hcall : ∀ A w, WD E A n B M F w → Calls E.P g ((l.map (SV.den A)) ++ cap.toList).toArray w (Ret w R))
   (hnext : ∀ v L, R v L → next (.mk ((d, .v v) :: T) n (c + 1) B M (L ++ F))) :
   OpW (opD E o Ms Fs next T n c B M F) := by
 refine ⟨opD0.up fun hkf A a w hW hT => ?_⟩
 have hargs : (k.args.map a.eval).toList = l.map (SV.den A) := by rw [Array.toList_map]; exact iP hT ha
 have hfv := (aI hT hf).1
 have hr : (execOp a.eval o).run E.P w = .ok (.enter g ((l.map (SV.den A)) ++ cap.toList).toArray) w := by
   have hcat : (k.args.map a.eval) ++ cap = ((l.map (SV.den A)) ++ cap.toList).toArray := by
     apply Array.ext'; rw [Array.toList_append, hargs]
   simp only [execOp, hop, resolve, hk, Sem.run_bind, hfv, SV.den, Deferred.ofValue, Sem.run_pure, Result.andThen_ok, Array.empty_append, invoke, hcat, kJ hc]
 unfold Oper.wp
 rw [hr, Oper.upon_enter]
 refine (hcall A w hW).mono ?_
 rintro e w' ⟨v, L, rfl, he, hL, hR⟩
 refine ⟨_, _, _, hW.learn he hL, fun w2 => ?_, fun f hf => List.mem_append_right _ (hkf f hf), hnext v L hR⟩
 rw [hd.1]
 exact (hT.step w2).put (v := .v v) hd.lt trivial
open Classical in
noncomputable def replayM (p : Prog) : State → List Int → Option State
 | s, [] => some s
 | s, t :: r => if StepOk p s t then replayM p (doM p s t) r else none
open Classical in
open Classical in
noncomputable def replayP (p : Prog) (tc : List Int) : Option State := if ProgOk p ∧ tc.length ≤ 100 then replayM p (start p) tc else none
def kR0 (y : StateH) (z : Sl) (n : Nat) : Value := .agg #[y.h0.val y.places.length, y.h1.val y.status.length, y.h2.val y.sems.length, y.h3.val y.onces.length, y.h4.val y.groups.length, y.h5.val y.barriers.length, y.h6.val y.chans.length, y.h7.val y.said.length, .int .i64 y.fault, z.val n]
end Go.Proofs.YtijmjecehppbfaaGreat
namespace Go.Proofs.YtijmjecehppbfaaGreat
set_option maxRecDepth 100000
set_option maxHeartbeats 100000000
open Go Go.Sx Go.RowKit
structure Keep (op : Op) (s s1 : State) : Prop where
 pl : s1.places = s.places
 st : s1.status = s.status
 fa : s1.fault = s.fault
 se : s1.sems = s.sems ∨ (op.kind = 2 ∨ op.kind = 3) ∧ ∃ x, s1.sems = s.sems.set op.on.toNat x
 ba : s1.barriers = s.barriers ∨ ∃ x, s1.barriers = s.barriers.set op.on.toNat x ∧ x.round ≤ (iX s op).round + 1
def kS0 (op : Op) (s s1 : State) : Prop := (s1.said = s.said ∧ op.kind ≠ 1) ∨ ∃ v, s1.said = s.said ++ [v] ∧ ((op.kind = 1 ∨ op.kind = 8) ∧ v = op.arg ∨ op.kind = 9)
inductive Stp (p : Prog) (s : State) (k : Nat) (st : Int) (op : Op) : State → Prop where
 | on (s1 : State) (who : List Int) : Keep op s s1 → kS0 op s s1 → who.Nodup → (∀ u ∈ who, aN (bH s) u ≠ []) → Stp p s k st op (onM p (who ++ [(k : Int)]) s1)
 | wait (s1 : State) (b : Int) : Keep op s s1 → s1.said = s.said → op.kind ≠ 1 → (b = 1 ∨ b = 2 ∧ st = 0) → Stp p s k st op (bE s1 k b)
 | fault (f : Int) : f ≠ 0 → op.kind ≠ 1 → Stp p s k st op (gK s f)
theorem hS0 {m : Once} (h : eI m) : m.waits.Nodup := by
 rcases h with h | h | h
 · rw [h.2.2.2]; exact List.nodup_nil
 · exact fS h.2.2.2.1
 · rw [h.2.2.2]; exact List.nodup_nil
theorem Rdy.stp {p : Prog} {s : State} {k : Nat} {ops : List Op} {a st : Int} {op : Op} (r : Rdy p s k ops a st op) (hw : ¬ sD p s k) : Stp p s k st op (doM p s k) := by
 have hst : s.status.getD (k : Int).toNat 0 = st := by rw [Int.toNat_natCast, List.getD_eq_getElem?_getD, r.h3]; rfl
 rw [sD, r.at_] at hw
 rw [doM, r.at_, dD]
 by_cases k1 : op.kind = 1
 · rw [if_pos k1]
   exact .on (kF s op.arg) [] z143 (.inr ⟨_, rfl, .inl ⟨.inl k1, rfl⟩⟩) List.nodup_nil (fun u hu => by cases hu)
 by_cases k2 : op.kind = 2
 · rw [if_neg k1, if_pos k2, kA]
   split
   · exact .on (setSem s op _) [] ⟨rfl, rfl, rfl, .inr ⟨.inl k2, _, rfl⟩, .inl rfl⟩ (.inl ⟨rfl, k1⟩) List.nodup_nil (fun u hu => by cases hu)
   · exact .wait (setSem s op _) 1 ⟨rfl, rfl, rfl, .inr ⟨.inl k2, _, rfl⟩, .inl rfl⟩ rfl k1 (.inl rfl)
 by_cases k3 : op.kind = 3
 · rw [if_neg k1, if_neg k2, if_pos k3, iY]
   obtain ⟨x, hx, hxa, ok, a1, a2, hi⟩ := r.sem (.inr k3)
   rw [hxa, Sem.release]
   by_cases hc : op.arg ≤ x.limit - x.free
   · rw [if_pos hc]
     have f0 := ok.f0
     obtain ⟨n, i1, i2, i3, i4, i5⟩ := tK x.queue (x.free + op.arg) (by omega) (fun w hw => (ok.cnt w hw).1)
     simp only [i1, i2]
     exact Stp.on (p := p) (s := s) (k := k) (st := st) (op := op) (setSem s op ⟨(dY (x.free + op.arg) x.queue).1, x.limit, x.queue.drop n⟩) ((x.queue.take n).map (·.t)) ⟨rfl, rfl, rfl, .inr ⟨.inr k3, _, rfl⟩, .inl rfl⟩ (.inl ⟨rfl, k1⟩) ((fS ok.dis).sublist ((List.take_sublist _ _).map _)) (fun u hu h0 => bC.1 ((kX hx x).none h0) (((List.take_sublist _ _).map _).subset hu))
   · rw [if_neg hc]
     exact .fault 1 (by decide) k1
 by_cases k4 : op.kind = 4
 · rw [if_neg k1, if_neg k2, if_neg k3, if_pos k4, kY, hst]
   obtain ⟨x, hx, hxa, ok, hv, hi⟩ := r.once k4
   rw [hxa]
   by_cases h2 : st = 2
   · rw [if_pos h2]
     exact .on (setOnce s op (x.finish k op.arg).1) x.waits z143 (.inl ⟨rfl, k1⟩) (hS0 ok) (fun u hu h0 => (bC (g := fun t : Int => t)).1 ((pA hx x).none h0) (by simpa using hu))
   have h0 : st = 0 := by
     rcases r.ow with ⟨e, _⟩ | ⟨e, _⟩
     · exact e
     · exact (h2 e).elim
   rw [if_neg h2]
   split
   · exact .wait (setOnce s op _) 2 z143 rfl k1 (.inr ⟨rfl, h0⟩)
   split
   · exact .wait (setOnce s op _) 1 z143 rfl k1 (.inl rfl)
   · exact .on (setOnce s op _) [] z143 (.inl ⟨rfl, k1⟩) List.nodup_nil (fun u hu => by cases hu)
 by_cases k5 : op.kind = 5
 · rw [if_neg k1, if_neg k2, if_neg k3, if_neg k4, if_pos k5, tJ]
   obtain ⟨x, hx, hxa, ⟨ok1, ok2, ok3⟩, ha, hi⟩ := r.group (.inl k5)
   rw [hxa, Group.add]
   by_cases hc : aV (x.count + op.arg) = true
   · rw [if_pos hc]
     by_cases h0 : x.count + op.arg = 0
     · rw [if_pos h0]
       exact .on (setGroup s op ⟨0, []⟩) x.waits z143 (.inl ⟨rfl, k1⟩) (fS ok2) (fun u hu h0 => (bC (g := fun t : Int => t)).1 ((iN hx x).none h0) (by simpa using hu))
     · rw [if_neg h0]
       exact .on (setGroup s op ⟨x.count + op.arg, x.waits⟩) [] z143 (.inl ⟨rfl, k1⟩) List.nodup_nil (fun u hu => by cases hu)
   · rw [if_neg hc]
     exact .fault 2 (by decide) k1
 by_cases k6 : op.kind = 6
 · rw [if_neg k1, if_neg k2, if_neg k3, if_neg k4, if_neg k5, if_pos k6, qD]
   split
   · exact .on (setGroup s op _) [] z143 (.inl ⟨rfl, k1⟩) List.nodup_nil (fun u hu => by cases hu)
   · exact .wait (setGroup s op _) 1 z143 rfl k1 (.inl rfl)
 by_cases k7 : op.kind = 7
 · rw [if_neg k1, if_neg k2, if_neg k3, if_neg k4, if_neg k5, if_neg k6, if_pos k7, hJ]
   obtain ⟨x, hx, hxa, ok, hi⟩ := r.barrier k7
   rw [hxa, Barrier.arrive] at hw ⊢
   by_cases hc : (x.waits.length : Int) + 1 < x.parties
   · rw [if_pos hc]
     exact .wait (setBarrier s op ⟨x.parties, x.round, x.waits ++ [(k : Int)]⟩) 1 ⟨rfl, rfl, rfl, .inl rfl, .inr ⟨_, rfl, by rw [hxa]; show x.round ≤ x.round + 1; omega⟩⟩ rfl k1 (.inl rfl)
   rw [if_neg hc] at hw ⊢
   by_cases h9 : x.round = 9999
   · exact (hw ⟨k7, if_pos h9⟩).elim
   rw [if_neg h9]
   have hne : ¬ x.waits ++ [(k : Int)] = [] := by simp
   simp only [if_neg hne]
   exact .on (setBarrier s op ⟨x.parties, x.round + 1, []⟩) x.waits ⟨rfl, rfl, rfl, .inl rfl, .inr ⟨_, rfl, by rw [hxa]; exact Int.le_refl _⟩⟩ (.inl ⟨rfl, k1⟩) (fS ok.2.2.2.2.2) (fun u hu h0 => (bC (g := fun t : Int => t)).1 ((lF hx x).none h0) (by simpa using hu))
 by_cases k8 : op.kind = 8
 · rw [if_neg k1, if_neg k2, if_neg k3, if_neg k4, if_neg k5, if_neg k6, if_neg k7, if_pos k8, lX]
   obtain ⟨x, hx, hxa, hv, hval, hi⟩ := r.chan (by omega)
   rw [hxa]
   by_cases hc : (x.send k op.arg).2.2.2 = true
   · obtain ⟨_, c1, c2, c3, c4⟩ := aT0 hc
     rw [if_pos hc]
     have hsd : x.send k op.arg = if h : 0 < x.getters.length then ({ x with getters := x.getters.drop 1 }, [x.getters[0]], true, true) else if (x.items.length : Int) < x.room then ({ x with items := x.items ++ [op.arg] }, [], true, true) else ({ x with senders := x.senders ++ [⟨(k : Int), op.arg⟩] }, [], false, true) := by
       rw [Chan.send, if_pos ⟨hv, c1, c2, c3, c4⟩]
     rw [hsd]
     by_cases hg : 0 < x.getters.length
     · simp only [dif_pos hg, if_true]
       rw [if_neg (by simp)]
       exact .on (kF (setChan s op { x with getters := x.getters.drop 1 }) op.arg) [x.getters[0]] z143 (.inr ⟨_, rfl, .inl ⟨.inr k8, rfl⟩⟩) (by simp) (fun u hu h0 => nA ((fA hx x).none h0) (List.mem_append_right _ (by rw [List.mem_singleton.1 hu]; exact List.getElem_mem hg)))
     · simp only [dif_neg hg]
       by_cases hr : (x.items.length : Int) < x.room
       · simp only [if_pos hr, if_true]
         exact .on (setChan s op { x with items := x.items ++ [op.arg] }) [] z143 (.inl ⟨rfl, k1⟩) List.nodup_nil (fun u hu => by cases hu)
       · simp only [if_neg hr, Bool.false_eq_true, if_false]
         exact .wait (setChan s op _) 1 z143 rfl k1 (.inl rfl)
   · rw [if_neg hc]
     exact .fault 3 (by decide) k1
 by_cases k9 : op.kind = 9
 · rw [if_neg k1, if_neg k2, if_neg k3, if_neg k4, if_neg k5, if_neg k6, if_neg k7, if_neg k8, if_pos k9, rN]
   obtain ⟨x, hx, hxa, hv, hval, hi⟩ := r.chan (by omega)
   rw [hxa]
   have hok : x.Valid ∧ aZ (k : Int) = true ∧ ¬ (k : Int) ∈ x.threads := ⟨hv, r.thr, nA ((fA hx x).none r.ev)⟩
   have hsd : x.get k = if 0 < x.gItems.length then ({ x with items := x.gItems.drop 1, senders := x.senders.drop 1 }, x.gItems.headD 0, 1, x.gWho, true) else if x.closed = true then ({ x with items := [], senders := [] }, 0, 2, [], true) else ({ x with items := [], senders := [], getters := x.getters ++ [(k : Int)] }, 0, 0, [], true) := by
     rw [Chan.get, if_pos hok]
   rw [hsd]
   by_cases hc : 0 < x.gItems.length
   · simp only [if_pos hc]
     rw [if_neg (by decide), if_pos trivial]
     exact .on (kF (setChan s op { x with items := x.gItems.drop 1, senders := x.senders.drop 1 }) (x.gItems.headD 0)) x.gWho z143 (.inr ⟨_, rfl, .inr k9⟩) ((tL hv).1.sublist ((List.take_sublist _ _).map _)) (fun u hu h0 => nA ((fA hx x).none h0) (List.mem_append_left _ (((List.take_sublist _ _).map _).subset hu)))
   · simp only [if_neg hc]
     by_cases hcl : x.closed = true
     · simp only [if_pos hcl]
       rw [if_neg (by decide), if_neg (by decide)]
       exact .on (setChan s op { x with items := [], senders := [] }) [] z143 (.inl ⟨rfl, k1⟩) List.nodup_nil (fun u hu => by cases hu)
     · simp only [if_neg hcl]
       rw [if_pos trivial]
       exact .wait (setChan s op _) 1 z143 rfl k1 (.inl rfl)
 rw [if_neg k1, if_neg k2, if_neg k3, if_neg k4, if_neg k5, if_neg k6, if_neg k7, if_neg k8, if_neg k9, mF]
 have h10 := r.ok.2.1
 have h11 := r.ok.1
 obtain ⟨x, hx, hxa, hv, hval, hi⟩ := r.chan (by omega)
 rw [hxa]
 by_cases hc : x.close.2.2 = true
 · obtain ⟨_, c1, c2⟩ := xF hc
   rw [if_pos hc]
   have hsd : x.close = ({ x with senders := [], getters := [], closed := true }, x.getters, true) := by
     rw [Chan.close, if_pos ⟨hv, c1, c2⟩]
   rw [hsd]
   exact .on (setChan s op { x with senders := [], getters := [], closed := true }) x.getters z143 (.inl ⟨rfl, k1⟩) (tL hv).2 (fun u hu h0 => nA ((fA hx x).none h0) (List.mem_append_right _ hu))
 · rw [if_neg hc]
   exact .fault 4 (by decide) k1
theorem Rdy.who {p : Prog} {s : State} {k : Nat} {ops : List Op} {a st : Int} {op : Op} (r : Rdy p s k ops a st op) {who : List Int} (nd : who.Nodup) (hw : ∀ u ∈ who, aN (bH s) u ≠ []) : (who ++ [(k : Int)]).Nodup ∧ ∀ x ∈ who ++ [(k : Int)], 0 ≤ x := by
 refine ⟨?_, fun x hx => ?_⟩
 · rw [List.nodup_append]
   exact ⟨nd, by simp, fun x hx y hy => by simp at hy; subst hy; rintro rfl; exact hw _ hx r.ev⟩
 · rcases List.mem_append.1 hx with hx | hx
   · exact (r.ft.isIn (hw x hx)).1
   · simp at hx; omega
theorem Stp.said {p : Prog} {s : State} {k : Nat} {st : Int} {op : Op} {s' : State} (h : Stp p s k st op s') : kS0 op s s' := by
 cases h with
 | on s1 who hK hs nd hw =>
   rw [kS0, qG]
   exact hs
 | wait s1 b hK hs h1 hb => exact .inl ⟨hs, h1⟩
 | fault f hf h1 => exact .inl ⟨rfl, h1⟩
theorem Stp.sems {p : Prog} {s : State} {k : Nat} {st : Int} {op : Op} {s' : State} (h : Stp p s k st op s') : s'.sems = s.sems ∨ (op.kind = 2 ∨ op.kind = 3) ∧ ∃ x, s'.sems = s.sems.set op.on.toNat x := by
 cases h with
 | on s1 who hK hs nd hw =>
   obtain ⟨pl, st', hE, _, _⟩ := oI p (who ++ [(k : Int)]) s1
   rw [hE]
   exact hK.se
 | wait s1 b hK hs h1 hb => exact hK.se
 | fault f hf h1 => exact .inl rfl
theorem Stp.bars {p : Prog} {s : State} {k : Nat} {st : Int} {op : Op} {s' : State} (h : Stp p s k st op s') : s'.barriers = s.barriers ∨ ∃ x, s'.barriers = s.barriers.set op.on.toNat x ∧ x.round ≤ (iX s op).round + 1 := by
 cases h with
 | on s1 who hK hs nd hw =>
   obtain ⟨pl, st', hE, _, _⟩ := oI p (who ++ [(k : Int)]) s1
   rw [hE]
   exact hK.ba
 | wait s1 b hK hs h1 hb => exact hK.ba
 | fault f hf h1 => exact .inl rfl
theorem StepOk.rdy {p : Prog} {s : State} {t : Int} (h : StepOk p s t) : ∃ (k : Nat) (ops : List Op) (a st : Int) (op : Op), t = k ∧ Rdy p s k ops a st op ∧ Stp p s k st op (doM p s t) := by
 obtain ⟨h1, h2, h3, h4⟩ := xM.1 h
 obtain ⟨k, ops, a, st, op, rfl, r⟩ := Go.Proofs.YtijmjecehppbfaaGreat.rdy h1 h2
 exact ⟨k, ops, a, st, op, rfl, r, r.stp h4⟩
def Rounds (s : State) (B : Int) : Prop := ∀ x ∈ s.barriers, x.round ≤ B
theorem Rounds.step {p : Prog} {s : State} {t B : Int} (h : StepOk p s t) (hB : 0 ≤ B) (hr : Rounds s B) : Rounds (doM p s t) (B + 1) := by
 obtain ⟨k, ops, a, st, op, rfl, r, hs⟩ := h.rdy
 intro x hx
 rcases hs.bars with e | ⟨y, e, hy⟩
 · rw [e] at hx
   have := hr x hx
   omega
 · rw [e] at hx
   rcases List.mem_or_eq_of_mem_set hx with hx | rfl
   · have := hr x hx
     omega
   · have hb : (iX s op).round ≤ B := by
       rw [iX, List.getD_eq_getElem?_getD]
       cases hc : s.barriers[op.on.toNat]? with
       | none => exact hB
       | some z => exact hr z (List.mem_of_getElem? hc)
     omega
open Classical in
noncomputable def goM2 (p : Prog) (ch : List Int → List Int → Option Int) : Nat → State → List Int → Option (State × List Int)
 | 0, s, tr => some (s, tr)
 | n + 1, s, tr => match ch tr (cG s) with
   | none => some (s, tr)
   | some t => if StepOk p s t then goM2 p ch n (doM p s t) (tr ++ [t]) else none
def qJ (s : State) (c : Int) : Int := (cG s).getD (c % ((cG s).length : Int)).toNat 0
open Classical in
noncomputable def runC (p : Prog) : State → List Int → List Int → Option (State × List Int)
 | s, tr, [] => some (s, tr)
 | s, tr, c :: r => if c < 0 then none else if cG s = [] then runC p s tr r else
   if StepOk p s (qJ s c) then runC p (doM p s (qJ s c)) (tr ++ [qJ s c]) r else none
open Classical in
noncomputable def runP (p : Prog) (cs : List Int) : Option (State × List Int) := if ProgOk p ∧ cs.length ≤ 100 then runC p (start p) [] cs else none
def chC (cs : List Int) (tr list : List Int) : Option Int := if list = [] ∨ tr.length = cs.length then none else some (list.getD ((cs.getD tr.length 0) % (list.length : Int)).toNat 0)
open Classical in
theorem zL {p : Prog} {s : State} {tr : List Int} (h : cG s = []) : ∀ {cs : List Int}, (∀ c ∈ cs, 0 ≤ c) → runC p s tr cs = some (s, tr)
 | [], _ => rfl
 | c :: r, hc => by
   rw [runC, if_neg (by have := hc c (by simp); omega), if_pos h]
   exact zL h fun x hx => hc x (List.mem_cons_of_mem _ hx)
theorem xP {p : Prog} : ∀ {s : State} {tr cs : List Int}, (∃ c ∈ cs, c < 0) → runC p s tr cs = none
 | s, tr, [], ⟨c, h, _⟩ => by cases h
 | s, tr, x :: r, ⟨c, h, h0⟩ => by
   rw [runC]
   split
   · rfl
   · rename_i hx
     have hr : ∃ c ∈ r, c < 0 := by
       rcases List.mem_cons.1 h with rfl | h
       · exact (hx h0).elim
       · exact ⟨c, h, h0⟩
     split
     · exact xP hr
     split
     · exact xP hr
     · rfl
theorem zM {p : Prog} {cs : List Int} (hc : ∀ c ∈ cs, 0 ≤ c) : ∀ (n : Nat) (s : State) (tr : List Int), tr.length ≤ cs.length → cs.length ≤ tr.length + n → goM2 p (chC cs) n s tr = runC p s tr (cs.drop tr.length)
 | 0, s, tr, h1, h2 => by rw [List.drop_eq_nil_of_le (by omega)]; rfl
 | n + 1, s, tr, h1, h2 => by
   rw [goM2]
   by_cases hr : cG s = []
   · rw [chC, if_pos (.inl hr), zL hr fun c h => hc c (List.mem_of_mem_drop h)]
   by_cases hl : tr.length = cs.length
   · rw [chC, if_pos (.inr hl), List.drop_eq_nil_of_le (by omega)]; rfl
   have hlt : tr.length < cs.length := by omega
   have e : (cG s).getD ((cs.getD tr.length 0) % ((cG s).length : Int)).toNat 0 = qJ s cs[tr.length] := by rw [qJ, List.getD_eq_getElem?_getD (l := cs), List.getElem?_eq_getElem hlt]; rfl
   rw [chC, if_neg (by rintro (h | h) <;> contradiction), e, List.drop_eq_getElem_cons hlt, runC, if_neg (by have := hc _ (List.getElem_mem hlt); omega), if_neg hr]
   simp only
   by_cases hs : StepOk p s (qJ s cs[tr.length])
   · rw [if_pos hs, if_pos hs]
     have := zM (p := p) hc n (doM p s (qJ s cs[tr.length])) (tr ++ [qJ s cs[tr.length]]) (by rw [List.length_append, List.length_singleton]; omega) (by rw [List.length_append, List.length_singleton]; omega)
     rw [this, List.length_append, List.length_singleton]
   · rw [if_neg hs, if_neg hs]
theorem qK {p : Prog} : ∀ {s : State} {tr a b : List Int} {r : State × List Int}, runC p s tr (a ++ b) = some r → ∃ s' tr', runC p s tr a = some (s', tr') ∧ runC p s' tr' b = some r
 | s, tr, [], b, r, h => ⟨s, tr, rfl, h⟩
 | s, tr, c :: a, b, r, h => by
   rw [List.cons_append, runC] at h
   rw [runC]
   split at h
   · cases h
   rename_i h0
   rw [if_neg h0]
   split at h
   · rename_i h1
     rw [if_pos h1]
     exact qK h
   rename_i h1
   rw [if_neg h1]
   split at h
   · rename_i h2
     rw [if_pos h2]
     exact qK h
   · cases h
theorem pD {p : Prog} : ∀ {s : State} {tr cs : List Int} {r : State × List Int}, runC p s tr cs = some r → ∃ e, r.2 = tr ++ e ∧ e.length ≤ cs.length
 | s, tr, [], r, h => by cases h; exact ⟨[], by simp, Nat.le_refl _⟩
 | s, tr, c :: cs, r, h => by
   rw [runC] at h
   split at h
   · cases h
   split at h
   · obtain ⟨e, h1, h2⟩ := pD h
     exact ⟨e, h1, Nat.le_succ_of_le h2⟩
   split at h
   · obtain ⟨e, h1, h2⟩ := pD h
     exact ⟨qJ s c :: e, by rw [h1]; simp, Nat.succ_le_succ h2⟩
   · cases h
theorem zN {p : Prog} {cs : List Int} {r : State × List Int} (h : runP p cs = some r) (k : Nat) : ∃ s' tr', runP p (cs.take k) = some (s', tr') ∧ tr'.length ≤ r.2.length ∧ r.2.take tr'.length = tr' ∧ r.2.length ≤ 100 := by
 rw [runP] at h
 split at h
 · rename_i hc
   have h0 := h
   rw [← List.take_append_drop k cs] at h
   obtain ⟨s', tr', h1, h2⟩ := qK h
   obtain ⟨e, h3, _⟩ := pD h2
   obtain ⟨e2, h4, h5⟩ := pD h0
   refine ⟨s', tr', ?_, by rw [h3]; simp, by rw [h3]; simp, by rw [h4, List.nil_append]; omega⟩
   rw [runP, if_pos ⟨hc.1, by rw [List.length_take]; omega⟩]
   exact h1
 · cases h
theorem sF {p : Prog} : ∀ {s : State} {tr cs : List Int} {r : State × List Int}, s.small20 → runC p s tr cs = some r → r.1.small20
 | s, tr, [], r, hs, h => by cases h; exact hs
 | s, tr, c :: cs, r, hs, h => by
   rw [runC] at h
   split at h
   · cases h
   split at h
   · exact sF hs h
   split at h
   · rename_i h2; exact sF h2.2.2.2.small h
   · cases h
end Go.Proofs.YtijmjecehppbfaaGreat
