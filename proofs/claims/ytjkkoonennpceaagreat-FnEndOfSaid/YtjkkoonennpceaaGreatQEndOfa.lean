/- FnEndOf: texts that its proof stands on, part 1. -/
import Derived.Test.YtjkkoonennpceaaGreatQWaitsForm
namespace Go.Proofs.YtjkkoonennpceaaGreat

open Go Go.Sx Go.RowKit

set_option maxHeartbeats 16000000 in
set_option maxRecDepth 100000 in
theorem lawEndOf_c (i : Sl) (xs : List UInt8) (w : World) (h : At w [slo i cByte 1 xs]) :
    Calls Tryz.prog 8 #[i.val xs.length] w (Ret w fun v L => v = .bool true ∧ L = []) := by
  refine calls1 Tryz.func8 rfl tabOk w _ rfl _ rfl _ h ⟨rfl, rfl, trivial⟩ _ (by decide) ?_
  refine CaseB.mk (fun h0 => ?_) (fun h0 => ?_)
  · exact retw [] ⟨rfl, rfl⟩ trivial rfl trivial (fun _ => rfl)
  have hb : xs.length ≤ 4294967296 := by simp at h0; omega
  refine stop_call _ cl32 rfl rfl rfl rfl ⟨rfl, rfl⟩ (fun A w hW => (endD_c i xs w ⟨(by first | exact hW.rd 0 rfl | exact hW.rdOwn 0 rfl | exact hW.rd 1 rfl | exact hW.rdOwn 1 rfl | exact hW.rd 2 rfl | exact hW.rdOwn 2 rfl | exact hW.rd 3 rfl | exact hW.rdOwn 3 rfl | exact hW.rd 4 rfl | exact hW.rdOwn 4 rfl | exact hW.rd 5 rfl | exact hW.rdOwn 5 rfl | exact hW.rd 6 rfl | exact hW.rdOwn 6 rfl | exact hW.rd 7 rfl | exact hW.rdOwn 7 rfl | exact hW.rd 8 rfl | exact hW.rdOwn 8 rfl | exact hW.rd 9 rfl | exact hW.rdOwn 9 rfl | exact hW.rd 10 rfl | exact hW.rdOwn 10 rfl | exact hW.rd 11 rfl | exact hW.rdOwn 11 rfl | exact hW.rd 12 rfl | exact hW.rdOwn 12 rfl | exact hW.rd 13 rfl | exact hW.rdOwn 13 rfl | exact hW.rd 14 rfl | exact hW.rdOwn 14 rfl | exact hW.rd 15 rfl | exact hW.rdOwn 15 rfl | exact hW.rd 16 rfl | exact hW.rdOwn 16 rfl | exact hW.rd 17 rfl | exact hW.rdOwn 17 rfl | exact hW.rd 18 rfl | exact hW.rdOwn 18 rfl | exact hW.rd 19 rfl | exact hW.rdOwn 19 rfl | exact hW.rd 20 rfl | exact hW.rdOwn 20 rfl | exact hW.rd 21 rfl | exact hW.rdOwn 21 rfl | exact hW.rd 22 rfl | exact hW.rdOwn 22 rfl | exact hW.rd 23 rfl | exact hW.rdOwn 23 rfl), trivial⟩ hb)) ?_
  rintro v L ⟨p, s, rfl, ok, nr, rfl⟩
  have hp := ok.small20
  have hs := nr.sm
  obtain ⟨e, he, hc⟩ := end_is p.pure s.pure
  refine stop_call _ cl33 rfl rfl rfl rfl ⟨rfl, rfl⟩ (fun A w hW => ret_bs he (endOf_c p s w ⟨hW.get 0 rfl (.O_R fun _ h => h), hW.get 1 rfl (fN_fR _), trivial⟩ hp hs)) ?_
  rintro v L ⟨rfl, rfl⟩
  refine stop_call _ cl34 rfl rfl rfl rfl ⟨rfl, rfl⟩ (fun A w hW => ret_bs he (endOfS_c p s w ⟨hW.get 0 rfl (.O_R fun _ h => h), hW.get 1 rfl (fN_fR _), trivial⟩ hp hs)) ?_
  rintro v L ⟨rfl, rfl⟩
  refine stop_bin rfl rfl rfl ⟨rfl, rfl⟩ (.bool (e != e)) (fun w => eqGuard_str w) (fun w => sne_run w) ?_
  refine CaseB.mk (fun g => by simp at g) (fun _ => ?_)
  refine stop_bin rfl rfl rfl ⟨rfl, rfl⟩ (.bool (e != [])) (fun w => eqGuard_str w) (fun w => sne_run w) ?_
  refine stop_call _ cl18 rfl rfl rfl rfl ⟨rfl, rfl⟩ (fun A w hW => stateFits_c p s w ⟨hW.get 0 rfl (.O_R fun _ h => h), hW.get 1 rfl (fN_fR _), trivial⟩ hp hs) ?_
  rintro v L ⟨b, rfl, hbb, rfl⟩
  have e0 : (e != []) = b := boolEq (P := Fits p.pure s.pure) (by
    rcases hc with ⟨c, rfl⟩ | ⟨c, _, rfl⟩ | ⟨c, _, rfl⟩ | ⟨c, rfl⟩ | ⟨c, _, _, _, rfl⟩
    · simp [c]
    · simp [c]
    · simp [c.1]
    · simp [c.1]
    · simp [c]) hbb
  rw [e0]
  refine CaseB.mk (fun g => by simp at g) (fun _ => ?_)
  refine stop_bin rfl rfl rfl ⟨rfl, rfl⟩ (.bool (e == [111, 112, 101, 110])) (fun w => eqGuard_str w) (fun w => seq_run w) ?_
  refine stop_call _ cl28 rfl rfl rfl rfl ⟨rfl, rfl⟩ (fun A w hW => readyThreads_c p s w ⟨hW.get 0 rfl (.O_R fun _ h => h), hW.get 1 rfl (fN_fR _), trivial⟩ hp hs) ?_
  rintro v L ⟨yr, rs, rfl, r1, r2, rfl⟩
  have e1 : (e == [111, 112, 101, 110]) = decide ((rs.length : Int) > 0) := by
    rcases hc with ⟨c, rfl⟩ | ⟨c, c2, rfl⟩ | ⟨c, c2, rfl⟩ | ⟨c, rfl⟩ | ⟨c, _, _, c2, rfl⟩
    · rw [r2 c]; rfl
    · rw [r1 c, readyM, if_neg c2]; rfl
    · rw [r1 c.1, c2]; rfl
    · rw [r1 c.1, c.2.2.1]; rfl
    · rw [r1 c]
      have := List.length_pos_iff.2 c2
      exact (decide_eq_true (by omega)).symm
  rw [e1]
  refine CaseB.mk (fun _ => ?_) (fun g => by simp at g)
  refine stop_bin rfl rfl rfl ⟨rfl, rfl⟩ (.bool (e == [111, 118, 101, 114])) (fun w => eqGuard_str w) (fun w => seq_run w) ?_
  refine stop_call _ cl25 rfl rfl rfl rfl ⟨rfl, rfl⟩ (fun A w hW => isOver_c p s w ⟨hW.get 1 rfl (.O_R fun _ h => h), hW.get 2 rfl (fN_fR _), trivial⟩ hp hs) ?_
  rintro v L ⟨b1, rfl, h1, rfl⟩
  have e2 : (e == [111, 118, 101, 114]) = b1 := boolEq (P := Over p.pure s.pure) (by
    rcases hc with ⟨c, rfl⟩ | ⟨c, c2, rfl⟩ | ⟨c, c2, rfl⟩ | ⟨c, rfl⟩ | ⟨c, _, c2, _, rfl⟩
    · exact ⟨fun h => (by cases h), fun h => (c h.1).elim⟩
    · exact ⟨fun h => (by cases h), fun h => (c2 h.2.1).elim⟩
    · exact ⟨fun _ => c, fun _ => rfl⟩
    · exact ⟨fun h => (by cases h), fun h => (c.2.2.2 h.2.2).elim⟩
    · exact ⟨fun h => (by cases h), fun h => (c2 h.2.2).elim⟩) h1
  rw [e2]
  refine CaseB.mk (fun _ => ?_) (fun g => by simp at g)
  refine stop_bin rfl rfl rfl ⟨rfl, rfl⟩ (.bool (e == [115, 116, 117, 99, 107])) (fun w => eqGuard_str w) (fun w => seq_run w) ?_
  refine stop_call _ cl23 rfl rfl rfl rfl ⟨rfl, rfl⟩ (fun A w hW => isStuck_c p s w ⟨hW.get 1 rfl (.O_R fun _ h => h), hW.get 2 rfl (fN_fR _), trivial⟩ hp hs) ?_
  rintro v L ⟨b2, rfl, h2, rfl⟩
  have e3 : (e == [115, 116, 117, 99, 107]) = b2 := boolEq (P := Stuck p.pure s.pure) (by
    rcases hc with ⟨c, rfl⟩ | ⟨c, c2, rfl⟩ | ⟨c, c2, rfl⟩ | ⟨c, rfl⟩ | ⟨c, _, _, c2, rfl⟩
    · exact ⟨fun h => (by cases h), fun h => (c h.1).elim⟩
    · exact ⟨fun h => (by cases h), fun h => (c2 h.2.1).elim⟩
    · exact ⟨fun h => (by cases h), fun h => (h.2.2.2 c.2.2).elim⟩
    · exact ⟨fun _ => c, fun _ => rfl⟩
    · exact ⟨fun h => (by cases h), fun h => (c2 h.2.2.1).elim⟩) h2
  rw [e3]
  refine retw [] ⟨?_, rfl⟩ trivial rfl trivial (fun _ => rfl)
  simp

end Go.Proofs.YtjkkoonennpceaaGreat

namespace Go.Proofs.YtjkkoonennpceaaGreat

open Go Go.Sx Go.RowKit Go.ChangeShapes Go.WideShapes

theorem ownNone : ownKnob Tryz.prog.godebug = none := by kernel_rfl

theorem laidOut : laidOutB Tryz.prog = true := by kernel_rfl

theorem undB : Tryz.prog.underlying 22 = some (.slice 5) := by kernel_rfl

theorem und8 : Tryz.prog.underlying 5 = some (.int .u8) := by kernel_rfl

theorem undBool : Tryz.prog.underlying 4 = some .bool := by kernel_rfl

set_option maxRecDepth 100000 in
theorem open_bytes {H : Type} {enc : TypeId × Value → H} {W : World} {base : Nat} {v : Value} {d : DataW H} {p : List MemPlace} (hv : Value.okWide Tryz.prog W .any base 22 v)
    (h : DataW.Trod enc Tryz.prog W 0 (fun _ => true) true 22 v d p) : ∃ (i : Sl) (xs : List UInt8), v = i.val xs.length ∧ At W [slo i cByte 1 xs] := by
  obtain ⟨fuel, hf⟩ := h
  obtain ⟨i, xs, h1, h2, h3⟩ := open_sl (el := cByte) encByte Nat.zero_lt_one undB (by kernel_rfl) (fun n cs y hy => by
    obtain ⟨k, h1, _, h2⟩ := DataW.trod_int und8 hy
    subst h1
    simp only [Lit.wf, Bool.and_eq_true, decide_eq_true_eq] at h2
    obtain ⟨h2, h3⟩ := h2
    have e1 : IntKind.u8.min = 0 := rfl
    have e2 : IntKind.u8.max = 255 := rfl
    rw [e1] at h2
    rw [e2] at h3
    refine ⟨UInt8.ofNat k.toNat, ?_⟩
    have : (UInt8.ofNat k.toNat).toNat = k.toNat := by rw [UInt8.toNat_ofNat']; omega
    simp only [cByte, this, List.cons.injEq, Value.int.injEq, true_and, and_true]
    omega) hf
  exact ⟨i, xs, val_slice undB hv h1, ⟨h2, h3⟩, trivial⟩

set_option maxRecDepth 100000 in
theorem bytes_lifted {f : FuncId} {fn : Func} {s : ChangeSpec} {conds : List PathCond} (hf : Tryz.checked.prog.funcs[f]? = some fn) (hfn : Tryz.checked.prog.inits.idxOf? f = none) (hpl : fn.params = #[22]) (hres : fn.resultTypes = #[4]) (hvars : s.vars = [])
    (hspec : ∀ (H : Type) (d : DataW H), s.fn H [d] = { results := [.lit (.bool true)], args := [d] })
    (hc : ∀ (i : Sl) (xs : List UInt8) (w : World), At w [slo i cByte 1 xs] → Calls Tryz.prog f #[i.val xs.length] w (Ret w fun v L => v = .bool true ∧ L = []))
    (os : Os) (started : os.Started) (H : Type) (enc : TypeId × Value → H)
    (wit : ∃ (w : World) (tape : Tape) (i : Input), w.os = os ∧ (w.forCall tape i).Shaped Tryz.checked.prog ∧ i.vars = [] ∧ Input.okWide Tryz.checked.prog (w.forCall tape i) .any w.heap.size f i ∧
      s.pre6 enc Tryz.checked.prog fn conds false (w.forCall tape i).memory i.args ∧ ({} : Assume).holds Tryz.checked.prog (lone (Frame.enter Tryz.checked.prog f i.args .normal) [] (w.forCall tape i))) :
    ReturnsInHanded {} Tryz.checked os f .any (s.pre6 enc Tryz.checked.prog fn conds false) (s.post enc Tryz.checked.prog fn false true false false) := by
  refine returnsInHanded_of_change (C := Tryz.checked) ownNone started hfn hf wit ?_
  intro W base args ds gs before hval hW _ _
  have hW' := hW
  obtain ⟨p, q, hA0, hV, _, _, _⟩ := hW
  rw [hpl] at hA0
  have hA : DataW.TrodAll enc Tryz.prog W 0 (fun _ => true) true [22] args.toList ds p := hA0
  obtain ⟨v0, d0, rfl, rfl, h0⟩ := trodAll_one hA
  obtain ⟨i, xs, rfl, hat⟩ := open_bytes (hval 0 22 v0 (by rw [hpl]; rfl) rfl) h0
  refine (hc i xs W hat).mono fun e W' hR => ?_
  obtain ⟨v, L, rfl, he, _, rfl, _⟩ := hR
  rw [hvars] at hV
  obtain ⟨rfl, _⟩ := trodVars_none hV
  exact ⟨_, rfl, law_post (P := Tryz.prog) laidOut (pl := [22]) (by rw [hpl]) (by kernel_rfl) hvars hres undBool (hspec H d0) hW' he.below⟩

end Go.Proofs.YtjkkoonennpceaaGreat
