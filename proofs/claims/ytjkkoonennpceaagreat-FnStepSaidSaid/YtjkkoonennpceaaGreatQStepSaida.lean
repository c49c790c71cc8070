/- FnStepSaid: texts that its proof stands on, part 1. -/
import Derived.Test.YtjkkoonennpceaaGreatQStepOthersn
namespace Go.Proofs.YtjkkoonennpceaaGreat

open Go Go.Sx Go.RowKit

set_option maxHeartbeats 32000000 in
set_option maxRecDepth 100000 in
theorem lawStepSaid_c (i : Sl) (xs : List UInt8) (w : World) (h : At w [slo i cByte 1 xs]) :
    Calls Tryz.prog 11 #[i.val xs.length] w (Ret w fun v L => v = .bool true ∧ L = []) := by
  refine calls1 Tryz.func11 rfl tabOk w _ rfl _ rfl _ h ⟨rfl, rfl, trivial⟩ _ (by decide) ?_
  refine CaseB.mk (fun h0 => ?_) (fun h0 => ?_)
  · exact retw [] ⟨rfl, rfl⟩ trivial rfl trivial (fun _ => rfl)
  have hb : xs.length ≤ 4294967296 := by simp at h0; omega
  refine stop_call _ cl36 rfl rfl rfl rfl ⟨rfl, rfl⟩ (fun A w hW => (stepD_c i xs w ⟨(by first | exact hW.rd 0 rfl | exact hW.rdOwn 0 rfl | exact hW.rd 1 rfl | exact hW.rdOwn 1 rfl | exact hW.rd 2 rfl | exact hW.rdOwn 2 rfl | exact hW.rd 3 rfl | exact hW.rdOwn 3 rfl | exact hW.rd 4 rfl | exact hW.rdOwn 4 rfl | exact hW.rd 5 rfl | exact hW.rdOwn 5 rfl | exact hW.rd 6 rfl | exact hW.rdOwn 6 rfl | exact hW.rd 7 rfl | exact hW.rdOwn 7 rfl | exact hW.rd 8 rfl | exact hW.rdOwn 8 rfl | exact hW.rd 9 rfl | exact hW.rdOwn 9 rfl | exact hW.rd 10 rfl | exact hW.rdOwn 10 rfl | exact hW.rd 11 rfl | exact hW.rdOwn 11 rfl | exact hW.rd 12 rfl | exact hW.rdOwn 12 rfl | exact hW.rd 13 rfl | exact hW.rdOwn 13 rfl | exact hW.rd 14 rfl | exact hW.rdOwn 14 rfl | exact hW.rd 15 rfl | exact hW.rdOwn 15 rfl | exact hW.rd 16 rfl | exact hW.rdOwn 16 rfl | exact hW.rd 17 rfl | exact hW.rdOwn 17 rfl | exact hW.rd 18 rfl | exact hW.rdOwn 18 rfl | exact hW.rd 19 rfl | exact hW.rdOwn 19 rfl | exact hW.rd 20 rfl | exact hW.rdOwn 20 rfl | exact hW.rd 21 rfl | exact hW.rdOwn 21 rfl | exact hW.rd 22 rfl | exact hW.rdOwn 22 rfl | exact hW.rd 23 rfl | exact hW.rdOwn 23 rfl), trivial⟩ hb)) ?_
  rintro v L ⟨p, s, t, rfl, ok, nr, rfl⟩
  have hp := ok.small20
  have hs := nr.sm
  refine stop_call _ cl35 rfl rfl rfl rfl ⟨rfl, rfl⟩ (fun A w hW => stepThread_c p s t w ⟨hW.get 0 rfl (.O_R fun _ h => h), hW.get 1 rfl (fN_fR _), trivial⟩ hp hs) ?_
  rintro v L ⟨x, b, rfl, i1, i2, i3, rfl⟩
  refine stop_call _ cl37 rfl rfl rfl rfl ⟨rfl, rfl⟩ (fun A w hW => stepThreadS_c p s t w ⟨hW.get 1 rfl (.O_R fun _ h => h), hW.get 2 rfl (fN_fR _), trivial⟩ hp hs) ?_
  rintro v L ⟨y, c, rfl, j1, j2, j3, rfl⟩
  obtain ⟨hyx, rfl, hxs⟩ := step_two i1 i2 i3 j1 j2 j3
  have hys : y.pure.small20 := by rw [hyx]; exact hxs
  refine stop_call _ cl15 rfl rfl rfl rfl ⟨rfl, rfl⟩ (fun A w hW => stateSame_c x y w ⟨hW.get 1 rfl (.O_R fun _ h => h), hW.get 0 rfl (fN_fR _), trivial⟩ hxs hys) ?_
  rintro v L ⟨rfl, rfl⟩
  refine CaseB.mk (fun g => by simp [hyx] at g) (fun _ => ?_)
  refine CaseB.mk (fun g => by simp at g) (fun _ => ?_)
  refine CaseB.mk (fun g => ?_) (fun g => ?_)
  · refine stop_call _ cl15 rfl rfl rfl rfl ⟨rfl, rfl⟩ (fun A w hW => stateSame_c x y w ⟨hW.get 1 rfl (.O_R fun _ h => h), hW.get 0 rfl (fN_fR _), trivial⟩ hxs hys) ?_
    rintro v L ⟨rfl, rfl⟩
    refine CaseB.mk (fun _ => ?_) (fun g => by simp [hyx] at g)
    refine retw [] ⟨?_, rfl⟩ trivial rfl trivial (fun _ => rfl)
    simp
  have so := i1.1 (by simpa using g)
  have hx := i2 (by simpa using g)
  have fx : Fits p.pure x.pure := by rw [hx]; exact so.2.2.2
  obtain ⟨k, ops, a, st, op, rfl, r, hstp⟩ := so.rdy
  rw [← hx] at hstp
  obtain ⟨hkt, hkp, hks, e1, e2, e3, hz, hlo, e4⟩ := r.H
  obtain ⟨lxp, lxs⟩ := fx.lens
  have hxp : k < x.places.length := by omega
  have hxk : k < x.status.length := by omega
  clear i1 i2 i3 j1 j2 j3
  refine draw_start tabOk (by kernel_rfl) (by kernel_rfl) (by kernel_rfl) 200 [((0, 4), .v (p.h4.val p.threads.length)), ((1, 0), .v (s.h0.val s.places.length))] [2, 3] [_, _] ⟨⟨_, rfl, rfl, (by first | exact trivial | exact Nat.le_of_ble_eq_true rfl)⟩, ⟨_, rfl, rfl, (by first | exact trivial | exact Nat.le_of_ble_eq_true rfl)⟩, trivial⟩ ⟨⟨_, rfl⟩, ⟨_, rfl⟩, trivial⟩ ⟨rfl, rfl, trivial⟩ rfl ?_
  refine d_idx (ti := tiOf tab) encOpSH tabOk rfl rfl rfl rfl rfl ⟨rfl, rfl⟩ (rdVia 0 rfl (.trans (.O_R fun _ h => h) (.trans (.R_R (progO_threads p)) (.ofR nest_h)))) k rfl (by first | omega | (simp; done) | (simp; omega) | (unfold maxLen; omega) | (unfold maxLen; simp; done) | (unfold maxLen; simp; omega)) (fun ad1 => ?_)
  refine d_idx (ti := tiOf tab) encInt tabOk rfl rfl rfl rfl rfl ⟨rfl, rfl⟩ (rdVia 1 rfl (.trans (fN_fR _) (.ofR (stateO_places s)))) k rfl (by first | omega | (simp; done) | (simp; omega) | (unfold maxLen; omega) | (unfold maxLen; simp; done) | (unfold maxLen; simp; omega)) (fun ad2 => ?_)
  refine d_idx (ti := tiOf tab) encOp tabOk rfl rfl rfl rfl rfl ⟨rfl, rfl⟩ (rdVia 0 rfl (.trans (.O_R fun _ h => h) (.trans (.R_R (progO_threads p)) (.ofR (threadsO_0 _ _ k hkt))))) a.toNat (e2.trans hz) (by first | omega | (simp; done) | (simp; omega) | (unfold maxLen; omega) | (unfold maxLen; simp; done) | (unfold maxLen; simp; omega)) (fun ad3 => ?_)
  rw [e4]
  have hsd := hstp.said
  refine CaseB.mk (fun g1 => ?_) (fun g1 => ?_)
  · have el : x.pure.said.length = s.pure.said.length := by have h : (x.said.length : Int) = s.said.length := (by simpa using g1); have e1 : x.pure.said.length = x.said.length := rfl; have e2 : s.pure.said.length = s.said.length := rfl; omega
    have k1 : op.kind ≠ 1 := by
      rcases hsd with h | ⟨v, h, _⟩
      · exact h.2
      · rw [h, List.length_append, List.length_singleton] at el; omega
    refine retw [] ⟨?_, rfl⟩ trivial rfl trivial (fun _ => rfl)
    simp [k1]
  have el : ¬ x.said.length = s.said.length := fun h => by rw [h] at g1; simp at g1
  obtain ⟨v, hv, hk⟩ : ∃ v, x.said = s.said ++ [v] ∧ ((op.kind = 1 ∨ op.kind = 8) ∧ v = op.arg ∨ op.kind = 9) := by
    rcases hsd with h | h
    · exact (el (congrArg List.length h.1)).elim
    · exact h
  have hl1 : x.said.length = s.said.length + 1 := by rw [hv, List.length_append, List.length_singleton]
  have hlt : s.said.length < x.said.length := by omega
  have hs1 : s.said.length ≤ 1048576 := hs.2.2.2.2.2.2.2
  have hat : x.said[s.said.length] = v := by simp [hv]
  have hwl : IntKind.i64.wrap ((x.said.length : Int) - 1) = ((s.said.length : Nat) : Int) := by rw [wrap_nn] <;> omega
  refine stop_idx encInt tabOk rfl rfl rfl rfl rfl ⟨rfl, rfl⟩ (rdVia 1 rfl (.ofO (stateO_said x))) s.said.length hwl (by first | omega | (simp; done) | (simp; omega) | (unfold maxLen; omega) | (unfold maxLen; simp; done) | (unfold maxLen; simp; omega)) (fun ad4 => ?_)
  rw [hat]
  clear nr hs hp hxs hys hyx so hx r hstp fx e4 hz e1 e2 e3 lxp lxs hsd el hat hwl hl1 hv hs1 g1
  repeat' (refine CaseB.mk (fun _ => ?_) (fun _ => ?_))
  all_goals
    refine retw [] ⟨?_, rfl⟩ trivial rfl trivial (fun _ => rfl)
    first
    | rfl
    | (simp_all; done)
    | (rcases hk with ⟨_, rfl⟩ | h <;> simp_all [resV, SV.den]; done)

end Go.Proofs.YtjkkoonennpceaaGreat

namespace Go.Proofs.YtjkkoonennpceaaGreat

open Go Go.Sx Go.RowKit Go.ChangeShapes Go.WideShapes

theorem ownNone : ownKnob Tryz.prog.godebug = none := by kernel_rfl

theorem laidOut : laidOutB Tryz.prog = true := by kernel_rfl

theorem undB : Tryz.prog.underlying 22 = some (.slice 5) := by kernel_rfl

theorem und8 : Tryz.prog.underlying 5 = some (.int .u8) := by kernel_rfl

theorem undBool : Tryz.prog.underlying 4 = some .bool := by kernel_rfl

set_option maxRecDepth 100000 in
theorem open_bytes {H : Type} {enc : TypeId × Value → H} {W : World} {base : Nat} {v : Value} {d : DataW H} {p : List MemPlace} (hv : Value.okWide Tryz.prog W .any base 22 v)
    (h : DataW.Trod enc Tryz.prog W 0 (fun _ => true) true 22 v d p) : ∃ (i : Sl) (xs : List UInt8), v = i.val xs.length ∧ At W [slo i cByte 1 xs] := by
  obtain ⟨fuel, hf⟩ := h
  obtain ⟨i, xs, h1, h2, h3⟩ := open_sl (el := cByte) encByte Nat.zero_lt_one undB (by kernel_rfl) (fun n cs y hy => by
    obtain ⟨k, h1, _, h2⟩ := DataW.trod_int und8 hy
    subst h1
    simp only [Lit.wf, Bool.and_eq_true, decide_eq_true_eq] at h2
    obtain ⟨h2, h3⟩ := h2
    have e1 : IntKind.u8.min = 0 := rfl
    have e2 : IntKind.u8.max = 255 := rfl
    rw [e1] at h2
    rw [e2] at h3
    refine ⟨UInt8.ofNat k.toNat, ?_⟩
    have : (UInt8.ofNat k.toNat).toNat = k.toNat := by rw [UInt8.toNat_ofNat']; omega
    simp only [cByte, this, List.cons.injEq, Value.int.injEq, true_and, and_true]
    omega) hf
  exact ⟨i, xs, val_slice undB hv h1, ⟨h2, h3⟩, trivial⟩

set_option maxRecDepth 100000 in
theorem bytes_lifted {f : FuncId} {fn : Func} {s : ChangeSpec} {conds : List PathCond} (hf : Tryz.checked.prog.funcs[f]? = some fn) (hfn : Tryz.checked.prog.inits.idxOf? f = none) (hpl : fn.params = #[22]) (hres : fn.resultTypes = #[4]) (hvars : s.vars = [])
    (hspec : ∀ (H : Type) (d : DataW H), s.fn H [d] = { results := [.lit (.bool true)], args := [d] })
    (hc : ∀ (i : Sl) (xs : List UInt8) (w : World), At w [slo i cByte 1 xs] → Calls Tryz.prog f #[i.val xs.length] w (Ret w fun v L => v = .bool true ∧ L = []))
    (os : Os) (started : os.Started) (H : Type) (enc : TypeId × Value → H)
    (wit : ∃ (w : World) (tape : Tape) (i : Input), w.os = os ∧ (w.forCall tape i).Shaped Tryz.checked.prog ∧ i.vars = [] ∧ Input.okWide Tryz.checked.prog (w.forCall tape i) .any w.heap.size f i ∧
      s.pre6 enc Tryz.checked.prog fn conds false (w.forCall tape i).memory i.args ∧ ({} : Assume).holds Tryz.checked.prog (lone (Frame.enter Tryz.checked.prog f i.args .normal) [] (w.forCall tape i))) :
    ReturnsInHanded {} Tryz.checked os f .any (s.pre6 enc Tryz.checked.prog fn conds false) (s.post enc Tryz.checked.prog fn false true false false) := by
  refine returnsInHanded_of_change (C := Tryz.checked) ownNone started hfn hf wit ?_
  intro W base args ds gs before hval hW _ _
  have hW' := hW
  obtain ⟨p, q, hA0, hV, _, _, _⟩ := hW
  rw [hpl] at hA0
  have hA : DataW.TrodAll enc Tryz.prog W 0 (fun _ => true) true [22] args.toList ds p := hA0
  obtain ⟨v0, d0, rfl, rfl, h0⟩ := trodAll_one hA
  obtain ⟨i, xs, rfl, hat⟩ := open_bytes (hval 0 22 v0 (by rw [hpl]; rfl) rfl) h0
  refine (hc i xs W hat).mono fun e W' hR => ?_
  obtain ⟨v, L, rfl, he, _, rfl, _⟩ := hR
  rw [hvars] at hV
  obtain ⟨rfl, _⟩ := trodVars_none hV
  exact ⟨_, rfl, law_post (P := Tryz.prog) laidOut (pl := [22]) (by rw [hpl]) (by kernel_rfl) hvars hres undBool (hspec H d0) hW' he.below⟩

end Go.Proofs.YtjkkoonennpceaaGreat
