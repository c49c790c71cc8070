/- FnStepFault: texts that its proof stands on, part 1. -/
import Derived.Test.YtijmjecehppbfaaGreatQStepWaitn
namespace Go.Proofs.YtijmjecehppbfaaGreat

open Go Go.Sx Go.RowKit

theorem rdMem {Zs G : List Fct} (hm : fR G ∈ Zs) {o : Bool} {i : Sl} {sz m : Nat} {cs : List Value} (r : Rd (fR G) (fSl o i sz cs m)) : ∀ w, (∀ f ∈ Zs, f.P w) → RdS w i sz cs m := fun w h => r.p w (h _ hm)

end Go.Proofs.YtijmjecehppbfaaGreat

namespace Go.Proofs.YtijmjecehppbfaaGreat

open Go Go.Sx Go.RowKit

set_option maxHeartbeats 32000000 in
set_option maxRecDepth 100000 in
theorem lawStepFault_c (i : Sl) (xs : List UInt8) (w : World) (h : At w [slo i cByte 1 xs]) :
    Calls Tryz.prog 6 #[i.val xs.length] w (Ret w fun v L => v = .bool true ∧ L = []) := by
  refine calls1 Tryz.func6 rfl tabOk w _ rfl _ rfl _ h ⟨rfl, rfl, trivial⟩ _ (by decide) ?_
  refine CaseB.mk (fun h0 => ?_) (fun h0 => ?_)
  · exact retw [] ⟨rfl, rfl⟩ trivial rfl trivial (fun _ => rfl)
  have hb : xs.length ≤ 4294967296 := by simp at h0; omega
  refine stop_call _ cl27 rfl rfl rfl rfl ⟨rfl, rfl⟩ (fun A w hW => (stepD_c i xs w ⟨(by first | exact hW.rd 0 rfl | exact hW.rdOwn 0 rfl | exact hW.rd 1 rfl | exact hW.rdOwn 1 rfl | exact hW.rd 2 rfl | exact hW.rdOwn 2 rfl | exact hW.rd 3 rfl | exact hW.rdOwn 3 rfl | exact hW.rd 4 rfl | exact hW.rdOwn 4 rfl | exact hW.rd 5 rfl | exact hW.rdOwn 5 rfl | exact hW.rd 6 rfl | exact hW.rdOwn 6 rfl | exact hW.rd 7 rfl | exact hW.rdOwn 7 rfl | exact hW.rd 8 rfl | exact hW.rdOwn 8 rfl | exact hW.rd 9 rfl | exact hW.rdOwn 9 rfl | exact hW.rd 10 rfl | exact hW.rdOwn 10 rfl | exact hW.rd 11 rfl | exact hW.rdOwn 11 rfl | exact hW.rd 12 rfl | exact hW.rdOwn 12 rfl | exact hW.rd 13 rfl | exact hW.rdOwn 13 rfl | exact hW.rd 14 rfl | exact hW.rdOwn 14 rfl | exact hW.rd 15 rfl | exact hW.rdOwn 15 rfl | exact hW.rd 16 rfl | exact hW.rdOwn 16 rfl | exact hW.rd 17 rfl | exact hW.rdOwn 17 rfl | exact hW.rd 18 rfl | exact hW.rdOwn 18 rfl | exact hW.rd 19 rfl | exact hW.rdOwn 19 rfl | exact hW.rd 20 rfl | exact hW.rdOwn 20 rfl | exact hW.rd 21 rfl | exact hW.rdOwn 21 rfl | exact hW.rd 22 rfl | exact hW.rdOwn 22 rfl | exact hW.rd 23 rfl | exact hW.rdOwn 23 rfl), trivial⟩ hb)) ?_
  rintro v L ⟨p, s, t, rfl, ok, nr, rfl⟩
  have hp := ok.small20
  have hs := nr.sm
  refine stop_call _ cl28 rfl rfl rfl rfl ⟨rfl, rfl⟩ (fun A w hW => stepThread_c p s t w ⟨hW.get 0 rfl (.O_R fun _ h => h), hW.get 1 rfl (fN_fR _), trivial⟩ hp hs) ?_
  rintro v L ⟨x, b, rfl, i1, i2, i3, rfl⟩
  refine stop_call _ cl29 rfl rfl rfl rfl ⟨rfl, rfl⟩ (fun A w hW => stepThreadS_c p s t w ⟨hW.get 1 rfl (.O_R fun _ h => h), hW.get 2 rfl (fN_fR _), trivial⟩ hp hs) ?_
  rintro v L ⟨y, c, rfl, j1, j2, j3, rfl⟩
  obtain ⟨hyx, rfl, hxs⟩ := step_two i1 i2 i3 j1 j2 j3
  have hys : y.pure.small20 := by rw [hyx]; exact hxs
  refine stop_call _ cl30 rfl rfl rfl rfl ⟨rfl, rfl⟩ (fun A w hW => stateSame_c x y w ⟨hW.get 1 rfl (.O_R fun _ h => h), hW.get 0 rfl (fN_fR _), trivial⟩ hxs hys) ?_
  rintro v L ⟨rfl, rfl⟩
  refine CaseB.mk (fun g => by simp [hyx] at g) (fun _ => ?_)
  refine CaseB.mk (fun g => by simp at g) (fun _ => ?_)
  refine CaseB.mk (fun g => ?_) (fun g => ?_)
  · refine stop_call _ cl30 rfl rfl rfl rfl ⟨rfl, rfl⟩ (fun A w hW => stateSame_c x y w ⟨hW.get 1 rfl (.O_R fun _ h => h), hW.get 0 rfl (fN_fR _), trivial⟩ hxs hys) ?_
    rintro v L ⟨rfl, rfl⟩
    refine CaseB.mk (fun _ => ?_) (fun g => by simp [hyx] at g)
    refine retw [] ⟨?_, rfl⟩ trivial rfl trivial (fun _ => rfl)
    simp
  have so := i1.1 (by simpa using g)
  have hx := i2 (by simpa using g)
  have fx : Fits p.pure x.pure := by rw [hx]; exact so.2.2.2
  obtain ⟨k, ops, a, st, op, rfl, r, hstp⟩ := so.rdy
  rw [← hx] at hstp
  obtain ⟨hkt, hkp, hks, e1, e2, e3, hz, hlo, e4⟩ := r.H
  obtain ⟨lxp, lxs⟩ := fx.lens
  have hxp : k < x.places.length := by omega
  have hxk : k < x.status.length := by omega
  clear i1 i2 i3 j1 j2 j3
  refine CaseB.mk (fun gf => ?_) (fun gf => ?_)
  · skip
    refine stop_call _ cl30 rfl rfl rfl rfl ⟨rfl, rfl⟩ (fun A w hW => stateSame_c x y w ⟨hW.get 1 rfl (.O_R fun _ h => h), hW.get 0 rfl (fN_fR _), trivial⟩ hxs hys) ?_
    rintro v L ⟨rfl, rfl⟩
    refine CaseB.mk (fun _ => ?_) (fun g => by simp [hyx] at g)
    refine retw [] ⟨?_, rfl⟩ trivial rfl trivial (fun _ => rfl)
    simp
  have hf : x.pure.fault ≠ 0 := by show x.fault ≠ 0; simpa using gf
  have hsame : { x.pure with fault := 0 } = s.pure := by
    rcases r.self hstp with ⟨_, h, _⟩ | ⟨h, _⟩ | ⟨h, _⟩
    · exact h
    · exact (hf h).elim
    · exact (hf h).elim
  have hr0 : readyM x.pure = [] := by rw [readyM, if_neg hf]
  have hxp' : ({ x with fault := 0 } : StateH).pure = s.pure := hsame
  refine stop_call _ cl30 rfl rfl rfl rfl ⟨rfl, rfl⟩ (fun A w hW => stateSame_c { x with fault := 0 } s w ⟨hW.get 1 rfl (.O_R fun _ h => h), hW.get 3 rfl (fN_fR _), trivial⟩ (by rw [hxp']; exact hs) hs) ?_
  rintro v L ⟨rfl, rfl⟩
  refine CaseB.mk (fun _ => ?_) (fun g => by simp [hxp'] at g)
  refine stop_call _ cl31 rfl rfl rfl rfl ⟨rfl, rfl⟩ (fun A w hW => readyThreads_c p x w ⟨hW.get 2 rfl (.O_R fun _ h => h), hW.get 1 rfl (.O_R fun _ h => h), trivial⟩ hp hxs) ?_
  rintro v L ⟨yr, rs, rfl, r1, _, rfl⟩
  have hrs : rs = [] := (r1 fx).trans hr0
  subst hrs
  refine CaseB.mk (fun _ => ?_) (fun g => by simp at g)
  refine stop_call _ cl32 rfl rfl rfl rfl ⟨rfl, rfl⟩ (fun A w hW => isOver_c p x w ⟨hW.get 3 rfl (.O_R fun _ h => h), hW.get 2 rfl (.O_R fun _ h => h), trivial⟩ hp hxs) ?_
  rintro v L ⟨b1, rfl, h1, rfl⟩
  obtain rfl : b1 = false := by
    cases b1
    · rfl
    · exact (hf (h1.1 rfl).2.1).elim
  refine CaseB.mk (fun _ => ?_) (fun g => by cases g)
  refine stop_call _ cl33 rfl rfl rfl rfl ⟨rfl, rfl⟩ (fun A w hW => isStuck_c p x w ⟨hW.get 3 rfl (.O_R fun _ h => h), hW.get 2 rfl (.O_R fun _ h => h), trivial⟩ hp hxs) ?_
  rintro v L ⟨b2, rfl, h2, rfl⟩
  obtain rfl : b2 = false := by
    cases b2
    · rfl
    · exact (hf (h2.1 rfl).2.1).elim
  exact retw [] ⟨rfl, rfl⟩ trivial rfl trivial (fun _ => rfl)

end Go.Proofs.YtijmjecehppbfaaGreat

namespace Go.Proofs.YtijmjecehppbfaaGreat

open Go Go.Sx Go.RowKit Go.ChangeShapes Go.WideShapes

theorem ownNone : ownKnob Tryz.prog.godebug = none := by kernel_rfl

theorem laidOut : laidOutB Tryz.prog = true := by kernel_rfl

theorem undB : Tryz.prog.underlying 22 = some (.slice 5) := by kernel_rfl

theorem und8 : Tryz.prog.underlying 5 = some (.int .u8) := by kernel_rfl

theorem undBool : Tryz.prog.underlying 4 = some .bool := by kernel_rfl

set_option maxRecDepth 100000 in
theorem open_bytes {H : Type} {enc : TypeId × Value → H} {W : World} {base : Nat} {v : Value} {d : DataW H} {p : List MemPlace} (hv : Value.okWide Tryz.prog W .any base 22 v)
    (h : DataW.Trod enc Tryz.prog W 0 (fun _ => true) true 22 v d p) : ∃ (i : Sl) (xs : List UInt8), v = i.val xs.length ∧ At W [slo i cByte 1 xs] := by
  obtain ⟨fuel, hf⟩ := h
  obtain ⟨i, xs, h1, h2, h3⟩ := open_sl (el := cByte) encByte Nat.zero_lt_one undB (by kernel_rfl) (fun n cs y hy => by
    obtain ⟨k, h1, _, h2⟩ := DataW.trod_int und8 hy
    subst h1
    simp only [Lit.wf, Bool.and_eq_true, decide_eq_true_eq] at h2
    obtain ⟨h2, h3⟩ := h2
    have e1 : IntKind.u8.min = 0 := rfl
    have e2 : IntKind.u8.max = 255 := rfl
    rw [e1] at h2
    rw [e2] at h3
    refine ⟨UInt8.ofNat k.toNat, ?_⟩
    have : (UInt8.ofNat k.toNat).toNat = k.toNat := by rw [UInt8.toNat_ofNat']; omega
    simp only [cByte, this, List.cons.injEq, Value.int.injEq, true_and, and_true]
    omega) hf
  exact ⟨i, xs, val_slice undB hv h1, ⟨h2, h3⟩, trivial⟩

set_option maxRecDepth 100000 in
theorem bytes_lifted {f : FuncId} {fn : Func} {s : ChangeSpec} {conds : List PathCond} (hf : Tryz.checked.prog.funcs[f]? = some fn) (hfn : Tryz.checked.prog.inits.idxOf? f = none) (hpl : fn.params = #[22]) (hres : fn.resultTypes = #[4]) (hvars : s.vars = [])
    (hspec : ∀ (H : Type) (d : DataW H), s.fn H [d] = { results := [.lit (.bool true)], args := [d] })
    (hc : ∀ (i : Sl) (xs : List UInt8) (w : World), At w [slo i cByte 1 xs] → Calls Tryz.prog f #[i.val xs.length] w (Ret w fun v L => v = .bool true ∧ L = []))
    (os : Os) (started : os.Started) (H : Type) (enc : TypeId × Value → H)
    (wit : ∃ (w : World) (tape : Tape) (i : Input), w.os = os ∧ (w.forCall tape i).Shaped Tryz.checked.prog ∧ i.vars = [] ∧ Input.okWide Tryz.checked.prog (w.forCall tape i) .any w.heap.size f i ∧
      s.pre6 enc Tryz.checked.prog fn conds false (w.forCall tape i).memory i.args ∧ ({} : Assume).holds Tryz.checked.prog (lone (Frame.enter Tryz.checked.prog f i.args .normal) [] (w.forCall tape i))) :
    ReturnsInHanded {} Tryz.checked os f .any (s.pre6 enc Tryz.checked.prog fn conds false) (s.post enc Tryz.checked.prog fn false true false false) := by
  refine returnsInHanded_of_change (C := Tryz.checked) ownNone started hfn hf wit ?_
  intro W base args ds gs before hval hW _ _
  have hW' := hW
  obtain ⟨p, q, hA0, hV, _, _, _⟩ := hW
  rw [hpl] at hA0
  have hA : DataW.TrodAll enc Tryz.prog W 0 (fun _ => true) true [22] args.toList ds p := hA0
  obtain ⟨v0, d0, rfl, rfl, h0⟩ := trodAll_one hA
  obtain ⟨i, xs, rfl, hat⟩ := open_bytes (hval 0 22 v0 (by rw [hpl]; rfl) rfl) h0
  refine (hc i xs W hat).mono fun e W' hR => ?_
  obtain ⟨v, L, rfl, he, _, rfl, _⟩ := hR
  rw [hvars] at hV
  obtain ⟨rfl, _⟩ := trodVars_none hV
  exact ⟨_, rfl, law_post (P := Tryz.prog) laidOut (pl := [22]) (by rw [hpl]) (by kernel_rfl) hvars hres undBool (hspec H d0) hW' he.below⟩

end Go.Proofs.YtijmjecehppbfaaGreat
