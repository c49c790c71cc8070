/- FnStepPermits: texts that its proof stands on, part 1. -/
import Derived.Test.YtjkkoonennpceaaGreatQStepOthersn
namespace Go.Proofs.YtjkkoonennpceaaGreat
open Go Go.Sx Go.RowKit
set_option maxHeartbeats 32000000 in
set_option maxRecDepth 100000 in
theorem lawStepPermits_c (i : Sl) (xs : List UInt8) (w : World) (h : At w [slo i cByte 1 xs]) :
   Calls Tryz.prog 10 #[i.val xs.length] w (Ret w fun v L => v = .bool true ∧ L = []) := by
 refine calls1 Tryz.func10 rfl tabOk w _ rfl _ rfl _ h ⟨rfl, rfl, trivial⟩ _ (by decide) ?_
 refine CaseB.mk (fun h0 => ?_) (fun h0 => ?_)
 · exact retw [] ⟨rfl, rfl⟩ trivial rfl trivial (fun _ => rfl)
 have hb : xs.length ≤ 4294967296 := by simp at h0; omega
 refine stop_call _ cl36 rfl rfl rfl rfl ⟨rfl, rfl⟩ (fun A w hW => (stepD_c i xs w ⟨z29, trivial⟩ hb)) ?_
 rintro v L ⟨p, s, t, rfl, ok, nr, rfl⟩
 have hp := ok.small20
 have hs := nr.sm
 refine stop_call _ cl35 rfl rfl rfl rfl ⟨rfl, rfl⟩ (fun A w hW => stepThread_c p s t w ⟨hW.get 0 rfl (.O_R fun _ h => h), hW.get 1 rfl (fN_fR _), trivial⟩ hp hs) ?_
 rintro v L ⟨x, b, rfl, i1, i2, i3, rfl⟩
 refine stop_call _ cl37 rfl rfl rfl rfl ⟨rfl, rfl⟩ (fun A w hW => stepThreadS_c p s t w ⟨hW.get 1 rfl (.O_R fun _ h => h), hW.get 2 rfl (fN_fR _), trivial⟩ hp hs) ?_
 rintro v L ⟨y, c, rfl, j1, j2, j3, rfl⟩
 obtain ⟨hyx, rfl, hxs⟩ := step_two i1 i2 i3 j1 j2 j3
 have hys : y.pure.small20 := by rw [hyx]; exact hxs
 refine stop_call _ cl15 rfl rfl rfl rfl ⟨rfl, rfl⟩ (fun A w hW => stateSame_c x y w ⟨hW.get 1 rfl (.O_R fun _ h => h), hW.get 0 rfl (fN_fR _), trivial⟩ hxs hys) ?_
 rintro v L ⟨rfl, rfl⟩
 refine CaseB.mk (fun g => by simp [hyx] at g) (fun _ => ?_)
 refine CaseB.mk (fun g => by simp at g) (fun _ => ?_)
 apply CaseB.mk <;> intro g
 · refine stop_call _ cl15 rfl rfl rfl rfl ⟨rfl, rfl⟩ (fun A w hW => stateSame_c x y w ⟨hW.get 1 rfl (.O_R fun _ h => h), hW.get 0 rfl (fN_fR _), trivial⟩ hxs hys) ?_
   rintro v L ⟨rfl, rfl⟩
   refine CaseB.mk (fun _ => ?_) (fun g => by simp [hyx] at g)
   refine retw [] ⟨?_, rfl⟩ trivial rfl trivial (fun _ => rfl)
   simp
 have so := i1.1 z91
 have hx := i2 z91
 have fx : Fits p.pure x.pure := by rw [hx]; exact so.2.2.2
 obtain ⟨k, ops, a, st, op, rfl, r, hstp⟩ := so.rdy
 rw [← hx] at hstp
 obtain ⟨hkt, hkp, hks, e1, e2, e3, hz, hlo, e4⟩ := r.H
 obtain ⟨lxp, lxs⟩ := fx.lens
 have hxp : k < x.places.length := by omega
 have hxk : k < x.status.length := by omega
 clear i1 i2 i3 j1 j2 j3
 refine draw_start tabOk z95 z95 z95 200 [((0, 4), .v (p.h4.val p.threads.length)), ((1, 0), .v (s.h0.val s.places.length))] [2, 3] [_, _] z124 z134 ⟨rfl, rfl, trivial⟩ rfl ?_
 refine d_idx (ti := tiOf tab) encOpSH tabOk rfl rfl rfl rfl rfl ⟨rfl, rfl⟩ (rdVia 0 rfl (.trans (.O_R fun _ h => h) (.trans (.R_R (progO_threads p)) (.ofR nest_h)))) k rfl z38 (fun ad1 => ?_)
 refine d_idx (ti := tiOf tab) encInt tabOk rfl rfl rfl rfl rfl ⟨rfl, rfl⟩ (rdVia 1 rfl (.trans (fN_fR _) (.ofR (stateO_places s)))) k rfl z38 (fun ad2 => ?_)
 refine d_idx (ti := tiOf tab) encOp tabOk rfl rfl rfl rfl rfl ⟨rfl, rfl⟩ (rdVia 0 rfl (.trans (.O_R fun _ h => h) (.trans (.R_R (progO_threads p)) (.ofR (threadsO_0 _ _ k hkt))))) a.toNat (e2.trans hz) z38 (fun ad3 => ?_)
 rw [e4]
 have o0 : 0 ≤ op.on := r.ok.2.2.1
 have lsx : x.sems.length = p.sems.length := by have := fx.lsems; simpa [StateH.pure, ProgH.pure] using this
 have lss : s.sems.length = p.sems.length := by have := r.ft.lsems; simpa [StateH.pure, ProgH.pure] using this
 have b2x := hxs.2.2.1
 have b2s := hs.2.2.1
 have lsb : x.sems.length ≤ 1048576 := (allS_map b2x).1
 refine LoopW.mk ⟨{ j : Nat // j ≤ x.sems.length },
   fun j => .mk [(3, .p 0 0), (4, .p 1 0), (6, .p 2 0), (10, .p 4 0), (11, .v (.int .i64 (j.1 : Int)))] 5 0 [(4, 44, 3), (2, 30, 9), (1, 30, 9), (0, 37, 5)] [((0, 0), .v (p.h0.val p.sems.length)), ((0, 1), .v (p.h1.val p.groups.length)), ((0, 2), .v (p.h2.val p.barriers.length)), ((0, 3), .v (p.h3.val p.rooms.length)), ((0, 4), .v (p.h4.val p.threads.length)), ((1, 0), .v (s.h0.val s.places.length)), ((1, 1), .v (s.h1.val s.status.length)), ((1, 2), .v (s.h2.val s.sems.length)), ((1, 3), .v (s.h3.val s.onces.length)), ((1, 4), .v (s.h4.val s.groups.length)), ((1, 5), .v (s.h5.val s.barriers.length)), ((1, 6), .v (s.h6.val s.chans.length)), ((1, 7), .v (s.h7.val s.said.length)), ((1, 8), .v (.int .i64 s.fault)), ((2, 0), .v (x.h0.val x.places.length)), ((2, 1), .v (x.h1.val x.status.length)), ((2, 2), .v (x.h2.val x.sems.length)), ((2, 3), .v (x.h3.val x.onces.length)), ((2, 4), .v (x.h4.val x.groups.length)), ((2, 5), .v (x.h5.val x.barriers.length)), ((2, 6), .v (x.h6.val x.chans.length)), ((2, 7), .v (x.h7.val x.said.length)), ((2, 8), .v (.int .i64 x.fault)), ((4, 0), .v (.int .i64 op.kind)), ((4, 1), .v (.int .i64 op.on)), ((4, 2), .v (.int .i64 op.arg))] [fO (stateO x), fO (progO p), fN (stateO s)],
   fun j => x.sems.length - j.1, ⟨0, Nat.zero_le _⟩, ?_, ?_⟩
 · exact weak_mk [1, 2, 3] zw2 zw0 zw2 zw5 zw4 rfl rfl
 rintro ⟨j, hj⟩
 simp only
 refine CaseB.mk (fun gj => ?_) (fun gj => ?_)
 · have hlt : j < x.sems.length := by have := of_decide_eq_true gj; omega
   have hls : j < s.sems.length := by omega
   have hlp : j < p.sems.length := by omega
   have hw := e_succ j _ hlt (by omega)
   have hmx : x.pure.sems[j]? = some (x.sems[j]).m := by simp [StateH.pure, hlt]
   have hms : s.pure.sems[j]? = some (s.sems[j]).m := by simp [StateH.pure, hls]
   have hchg : (x.sems[j]).m ≠ (s.sems[j]).m → op.on = (j : Int) ∧ (op.kind = 2 ∨ op.kind = 3) := fun hne => hstp.changed o0 (by rw [hmx, hms]; exact fun e => hne (Option.some.inj e))
   obtain ⟨sok, slim⟩ := fx.sems j _ hmx
   have f0 := sok.f0
   have fl := sok.fl
   have hlim : p.sems[j] = (x.sems[j]).m.limit := by
     have e : p.pure.sems[j]? = some p.sems[j] := List.getElem?_eq_getElem hlp
     rw [e] at slim
     exact Option.some.inj slim
   have q1 := (allS_map b2x).2 _ (List.getElem_mem hlt)
   have q2 := (allS_map b2s).2 _ (List.getElem_mem hls)
   unfold Sem.small20 at q1 q2
   refine draw_start tabOk z95 z95 z95 200 [((1, 2), .v (s.h2.val s.sems.length)), ((2, 2), .v (x.h2.val x.sems.length))] [0, 2] [_, _] z124 z134 ⟨rfl, rfl, trivial⟩ rfl ?_
   refine d_idx (ti := tiOf tab) encSemH tabOk rfl rfl rfl rfl rfl ⟨rfl, rfl⟩ (rdVia 0 rfl (.trans (.O_R (stateO_sems x)) (.ofR nest_h))) j rfl z38 (fun ad4 => ?_)
   refine d_idx (ti := tiOf tab) encSemH tabOk rfl rfl rfl rfl rfl ⟨rfl, rfl⟩ (rdVia 1 rfl (.trans (fN_fR _) (.trans (.R_R (stateO_sems s)) (.ofR nest_h)))) j rfl z38 (fun ad5 => ?_)
   refine d_call _ cl38 rfl rfl rfl rfl ⟨rfl, rfl⟩ (fun A w hW => semSame_c _ _ _ _ w ⟨hW.get 0 rfl (.trans (.O_R (stateO_sems x)) (.ofR (semsO_0 _ _ j hlt))), hW.get 2 rfl (.trans (fN_fR _) (.trans (.R_R (stateO_sems s)) (.ofR (semsO_0 _ _ j hls)))), trivial⟩ (by omega) (by omega)) ?_
   rintro v L ⟨rfl, rfl⟩
   refine CaseB.mk (fun gc => ?_) (fun gc => ?_)
   · obtain ⟨c1, c2⟩ := hchg (by simpa using gc)
     refine CaseB.mk (fun g => by simp [c1] at g) (fun _ => ?_)
     refine CaseB.mk (fun gk => ?_) (fun gk => ?_)
     · have k2 : ¬ op.kind = 2 := by simpa using gk
       have k3 : op.kind = 3 := c2.resolve_left k2
       refine CaseB.mk (fun g => by simp [k3] at g) (fun _ => ?_)
       refine draw_start tabOk z95 z95 z95 200 [((0, 0), .v (p.h0.val p.sems.length)), ((2, 2), .v (x.h2.val x.sems.length))] [0, 1] [_, _] z124 z134 ⟨rfl, rfl, trivial⟩ rfl ?_
       refine d_idx (ti := tiOf tab) encSemH tabOk rfl rfl rfl rfl rfl ⟨rfl, rfl⟩ (rdVia 0 rfl (.trans (.O_R (stateO_sems x)) (.ofR nest_h))) j rfl z38 (fun ad6 => ?_)
       refine CaseB.mk (fun g => by have := of_decide_eq_true g; omega) (fun _ => ?_)
       refine d_idx (ti := tiOf tab) encSemH tabOk rfl rfl rfl rfl rfl ⟨rfl, rfl⟩ (rdVia 0 rfl (.trans (.O_R (stateO_sems x)) (.ofR nest_h))) j rfl z38 (fun ad7 => ?_)
       refine d_idx (ti := tiOf tab) encInt tabOk rfl rfl rfl rfl rfl ⟨rfl, rfl⟩ (rdVia 1 rfl (.trans (.O_R fun _ h => h) (.ofR (progO_sems p)))) j rfl z38 (fun ad8 => ?_)
       refine CaseB.mk (fun g => by have := of_decide_eq_true g; omega) (fun _ => ?_)
       refine ⟨⟨j + 1, hlt⟩, ?_, by simp only; omega⟩
       exact weak_mk [0, 1, 2] zw1 zw0 zw1 zw5 zw3 rfl rfl
     · skip
       refine draw_start tabOk z95 z95 z95 200 [((0, 0), .v (p.h0.val p.sems.length)), ((2, 2), .v (x.h2.val x.sems.length))] [0, 1] [_, _] z124 z134 ⟨rfl, rfl, trivial⟩ rfl ?_
       refine d_idx (ti := tiOf tab) encSemH tabOk rfl rfl rfl rfl rfl ⟨rfl, rfl⟩ (rdVia 0 rfl (.trans (.O_R (stateO_sems x)) (.ofR nest_h))) j rfl z38 (fun ad6 => ?_)
       refine CaseB.mk (fun g => by have := of_decide_eq_true g; omega) (fun _ => ?_)
       refine d_idx (ti := tiOf tab) encSemH tabOk rfl rfl rfl rfl rfl ⟨rfl, rfl⟩ (rdVia 0 rfl (.trans (.O_R (stateO_sems x)) (.ofR nest_h))) j rfl z38 (fun ad7 => ?_)
       refine d_idx (ti := tiOf tab) encInt tabOk rfl rfl rfl rfl rfl ⟨rfl, rfl⟩ (rdVia 1 rfl (.trans (.O_R fun _ h => h) (.ofR (progO_sems p)))) j rfl z38 (fun ad8 => ?_)
       refine CaseB.mk (fun g => by have := of_decide_eq_true g; omega) (fun _ => ?_)
       refine ⟨⟨j + 1, hlt⟩, ?_, by simp only; omega⟩
       exact weak_mk [0, 1, 2] zw1 zw0 zw1 zw5 zw3 rfl rfl
   · skip
     refine draw_start tabOk z95 z95 z95 200 [((0, 0), .v (p.h0.val p.sems.length)), ((2, 2), .v (x.h2.val x.sems.length))] [0, 1] [_, _] z124 z134 ⟨rfl, rfl, trivial⟩ rfl ?_
     refine d_idx (ti := tiOf tab) encSemH tabOk rfl rfl rfl rfl rfl ⟨rfl, rfl⟩ (rdVia 0 rfl (.trans (.O_R (stateO_sems x)) (.ofR nest_h))) j rfl z38 (fun ad6 => ?_)
     refine CaseB.mk (fun g => by have := of_decide_eq_true g; omega) (fun _ => ?_)
     refine d_idx (ti := tiOf tab) encSemH tabOk rfl rfl rfl rfl rfl ⟨rfl, rfl⟩ (rdVia 0 rfl (.trans (.O_R (stateO_sems x)) (.ofR nest_h))) j rfl z38 (fun ad7 => ?_)
     refine d_idx (ti := tiOf tab) encInt tabOk rfl rfl rfl rfl rfl ⟨rfl, rfl⟩ (rdVia 1 rfl (.trans (.O_R fun _ h => h) (.ofR (progO_sems p)))) j rfl z38 (fun ad8 => ?_)
     refine CaseB.mk (fun g => by have := of_decide_eq_true g; omega) (fun _ => ?_)
     refine ⟨⟨j + 1, hlt⟩, ?_, by simp only; omega⟩
     exact weak_mk [0, 1, 2] zw1 zw0 zw1 zw5 zw3 rfl rfl
 exact retw [] ⟨rfl, rfl⟩ trivial rfl trivial (fun _ => rfl)
end Go.Proofs.YtjkkoonennpceaaGreat
namespace Go.Proofs.YtjkkoonennpceaaGreat
open Go Go.Sx Go.RowKit Go.ChangeShapes Go.WideShapes
theorem ownNone : ownKnob Tryz.prog.godebug = none := by kernel_rfl
theorem laidOut : laidOutB Tryz.prog = true := by kernel_rfl
theorem undB : Tryz.prog.underlying 22 = some (.slice 5) := by kernel_rfl
theorem und8 : Tryz.prog.underlying 5 = some (.int .u8) := by kernel_rfl
theorem undBool : Tryz.prog.underlying 4 = some .bool := by kernel_rfl
set_option maxRecDepth 100000 in
theorem open_bytes {H : Type} {enc : TypeId × Value → H} {W : World} {base : Nat} {v : Value} {d : DataW H} {p : List MemPlace} (hv : Value.okWide Tryz.prog W .any base 22 v)
   (h : DataW.Trod enc Tryz.prog W 0 (fun _ => true) true 22 v d p) : ∃ (i : Sl) (xs : List UInt8), v = i.val xs.length ∧ At W [slo i cByte 1 xs] := by
 obtain ⟨fuel, hf⟩ := h
 obtain ⟨i, xs, h1, h2, h3⟩ := open_sl (el := cByte) encByte Nat.zero_lt_one undB z95 (fun n cs y hy => by
   obtain ⟨k, h1, _, h2⟩ := DataW.trod_int und8 hy
   subst h1
   simp only [Lit.wf, Bool.and_eq_true, decide_eq_true_eq] at h2
   obtain ⟨h2, h3⟩ := h2
   have e1 : IntKind.u8.min = 0 := rfl
   have e2 : IntKind.u8.max = 255 := rfl
   rw [e1] at h2
   rw [e2] at h3
   refine ⟨UInt8.ofNat k.toNat, ?_⟩
   have : (UInt8.ofNat k.toNat).toNat = k.toNat := by rw [UInt8.toNat_ofNat']; omega
   simp only [cByte, this, List.cons.injEq, Value.int.injEq, true_and, and_true]
   omega) hf
 exact ⟨i, xs, val_slice undB hv h1, ⟨h2, h3⟩, trivial⟩
set_option maxRecDepth 100000 in
theorem bytes_lifted {f : FuncId} {fn : Func} {s : ChangeSpec} {conds : List PathCond} (hf : Tryz.checked.prog.funcs[f]? = some fn) (hfn : Tryz.checked.prog.inits.idxOf? f = none) (hpl : fn.params = #[22]) (hres : fn.resultTypes = #[4]) (hvars : s.vars = [])
   (hspec : ∀ (H : Type) (d : DataW H), s.fn H [d] = { results := [.lit (.bool true)], args := [d] })
   (hc : ∀ (i : Sl) (xs : List UInt8) (w : World), At w [slo i cByte 1 xs] → Calls Tryz.prog f #[i.val xs.length] w (Ret w fun v L => v = .bool true ∧ L = []))
   (os : Os) (started : os.Started) (H : Type) (enc : TypeId × Value → H)
   (wit : ∃ (w : World) (tape : Tape) (i : Input), w.os = os ∧ (w.forCall tape i).Shaped Tryz.checked.prog ∧ i.vars = [] ∧ Input.okWide Tryz.checked.prog (w.forCall tape i) .any w.heap.size f i ∧
     s.pre6 enc Tryz.checked.prog fn conds false (w.forCall tape i).memory i.args ∧ ({} : Assume).holds Tryz.checked.prog (lone (Frame.enter Tryz.checked.prog f i.args .normal) [] (w.forCall tape i))) :
   ReturnsInHanded {} Tryz.checked os f .any (s.pre6 enc Tryz.checked.prog fn conds false) (s.post enc Tryz.checked.prog fn false true false false) := by
 refine returnsInHanded_of_change (C := Tryz.checked) ownNone started hfn hf wit ?_
 intro W base args ds gs before hval hW _ _
 have hW' := hW
 obtain ⟨p, q, hA0, hV, _, _, _⟩ := hW
 rw [hpl] at hA0
 have hA : DataW.TrodAll enc Tryz.prog W 0 (fun _ => true) true [22] args.toList ds p := hA0
 obtain ⟨v0, d0, rfl, rfl, h0⟩ := trodAll_one hA
 obtain ⟨i, xs, rfl, hat⟩ := open_bytes (hval 0 22 v0 (by rw [hpl]; rfl) rfl) h0
 refine (hc i xs W hat).mono fun e W' hR => ?_
 obtain ⟨v, L, rfl, he, _, rfl, _⟩ := hR
 rw [hvars] at hV
 obtain ⟨rfl, _⟩ := trodVars_none hV
 exact ⟨_, rfl, law_post (P := Tryz.prog) laidOut (pl := [22]) (by rw [hpl]) z95 hvars hres undBool (hspec H d0) hW' he.below⟩
end Go.Proofs.YtjkkoonennpceaaGreat
