/- FnStepOthers: texts that its proof stands on, part 15. -/
import Derived.Test.YtjkkoonennpceaaGreatQStepOthersn
namespace Go.Proofs.YtjkkoonennpceaaGreat
open Go Go.Sx Go.RowKit Go.ChangeShapes Go.WideShapes
theorem ownNone : ownKnob Tryz.prog.godebug = none := by kernel_rfl
theorem laidOut : laidOutB Tryz.prog = true := by kernel_rfl
theorem undB : Tryz.prog.underlying 22 = some (.slice 5) := by kernel_rfl
theorem und8 : Tryz.prog.underlying 5 = some (.int .u8) := by kernel_rfl
theorem undBool : Tryz.prog.underlying 4 = some .bool := by kernel_rfl
set_option maxRecDepth 100000 in
theorem open_bytes {H : Type} {enc : TypeId × Value → H} {W : World} {base : Nat} {v : Value} {d : DataW H} {p : List MemPlace} (hv : Value.okWide Tryz.prog W .any base 22 v)
   (h : DataW.Trod enc Tryz.prog W 0 (fun _ => true) true 22 v d p) : ∃ (i : Sl) (xs : List UInt8), v = i.val xs.length ∧ At W [slo i cByte 1 xs] := by
 obtain ⟨fuel, hf⟩ := h
 obtain ⟨i, xs, h1, h2, h3⟩ := open_sl (el := cByte) encByte Nat.zero_lt_one undB z95 (fun n cs y hy => by
   obtain ⟨k, h1, _, h2⟩ := DataW.trod_int und8 hy
   subst h1
   simp only [Lit.wf, Bool.and_eq_true, decide_eq_true_eq] at h2
   obtain ⟨h2, h3⟩ := h2
   have e1 : IntKind.u8.min = 0 := rfl
   have e2 : IntKind.u8.max = 255 := rfl
   rw [e1] at h2
   rw [e2] at h3
   refine ⟨UInt8.ofNat k.toNat, ?_⟩
   have : (UInt8.ofNat k.toNat).toNat = k.toNat := by rw [UInt8.toNat_ofNat']; omega
   simp only [cByte, this, List.cons.injEq, Value.int.injEq, true_and, and_true]
   omega) hf
 exact ⟨i, xs, val_slice undB hv h1, ⟨h2, h3⟩, trivial⟩
set_option maxRecDepth 100000 in
theorem bytes_lifted {f : FuncId} {fn : Func} {s : ChangeSpec} {conds : List PathCond} (hf : Tryz.checked.prog.funcs[f]? = some fn) (hfn : Tryz.checked.prog.inits.idxOf? f = none) (hpl : fn.params = #[22]) (hres : fn.resultTypes = #[4]) (hvars : s.vars = [])
   (hspec : ∀ (H : Type) (d : DataW H), s.fn H [d] = { results := [.lit (.bool true)], args := [d] })
   (hc : ∀ (i : Sl) (xs : List UInt8) (w : World), At w [slo i cByte 1 xs] → Calls Tryz.prog f #[i.val xs.length] w (Ret w fun v L => v = .bool true ∧ L = []))
   (os : Os) (started : os.Started) (H : Type) (enc : TypeId × Value → H)
   (wit : ∃ (w : World) (tape : Tape) (i : Input), w.os = os ∧ (w.forCall tape i).Shaped Tryz.checked.prog ∧ i.vars = [] ∧ Input.okWide Tryz.checked.prog (w.forCall tape i) .any w.heap.size f i ∧
     s.pre6 enc Tryz.checked.prog fn conds false (w.forCall tape i).memory i.args ∧ ({} : Assume).holds Tryz.checked.prog (lone (Frame.enter Tryz.checked.prog f i.args .normal) [] (w.forCall tape i))) :
   ReturnsInHanded {} Tryz.checked os f .any (s.pre6 enc Tryz.checked.prog fn conds false) (s.post enc Tryz.checked.prog fn false true false false) := by
 refine returnsInHanded_of_change (C := Tryz.checked) ownNone started hfn hf wit ?_
 intro W base args ds gs before hval hW _ _
 have hW' := hW
 obtain ⟨p, q, hA0, hV, _, _, _⟩ := hW
 rw [hpl] at hA0
 have hA : DataW.TrodAll enc Tryz.prog W 0 (fun _ => true) true [22] args.toList ds p := hA0
 obtain ⟨v0, d0, rfl, rfl, h0⟩ := trodAll_one hA
 obtain ⟨i, xs, rfl, hat⟩ := open_bytes (hval 0 22 v0 (by rw [hpl]; rfl) rfl) h0
 refine (hc i xs W hat).mono fun e W' hR => ?_
 obtain ⟨v, L, rfl, he, _, rfl, _⟩ := hR
 rw [hvars] at hV
 obtain ⟨rfl, _⟩ := trodVars_none hV
 exact ⟨_, rfl, law_post (P := Tryz.prog) laidOut (pl := [22]) (by rw [hpl]) z95 hvars hres undBool (hspec H d0) hW' he.below⟩
end Go.Proofs.YtjkkoonennpceaaGreat
