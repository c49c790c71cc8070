/- Locks: arguments of the exact laws. -/
import Derived.Test.YtpemppacedfifaaLo
import Derived.Test.YtpemppacedfifaaLa
namespace Go.Proofs.Ytpemppacedfifaa
open Go Go.Sx Go.RowKit Go.ChangeShapes Go.WideShapes

theorem undI : Try.prog.underlying 3 = some (.int .i64) := by kernel_rfl
theorem undIs : Try.prog.underlying 23 = some (.slice 3) := by kernel_rfl
theorem undWs : Try.prog.underlying 44 = some (.slice 82) := by kernel_rfl
theorem structW : Try.prog.underlying 82 = some (.struct (Try.prog.fieldsOf 82)) := by kernel_rfl
theorem structC : Try.prog.underlying 46 = some (.struct (Try.prog.fieldsOf 46)) := by kernel_rfl
theorem fieldsW : (Try.prog.fieldsOf 82).toList.map (fun f => (f.type, f.offset, Try.prog.cellsOf f.type)) = [(3, 0, 1), (4, 1, 1)] := by kernel_rfl
theorem fieldsC : (Try.prog.fieldsOf 46).toList.map (fun f => (f.type, f.offset, Try.prog.cellsOf f.type)) = [(23, 0, 1), (3, 1, 1), (44, 2, 1)] := by kernel_rfl
section
variable {H : Type} {enc : TypeId × Value → H} {W : World} {base : Nat}
set_option maxRecDepth 100000 in
theorem el_int : ∀ (n : Nat) (cs : List Value) (y : DataW H × List MemPlace), DataW.trod enc Try.prog W 0 (fun _ => true) true n 3 cs = some y → ∃ a : Int, cs = cInt a := fun n cs y hy => by
  obtain ⟨k, h1, _, _⟩ := DataW.trod_int undI hy
  exact ⟨k, h1⟩
set_option maxRecDepth 100000 in
theorem el_want : ∀ (n : Nat) (cs : List Value) (y : DataW H × List MemPlace), DataW.trod enc Try.prog W 0 (fun _ => true) true n 82 cs = some y → ∃ a : Want, cs = cWant a := fun n cs y hy => by
  obtain ⟨hl, k, hx⟩ := trod_fields structW fieldsW (sz := 2) (by kernel_rfl) hy
  match cs, hl with
  | [a, b], _ =>
    obtain ⟨_, h0⟩ := hx 0 _ _ _ rfl
    obtain ⟨_, h1⟩ := hx 1 _ _ _ rfl
    obtain ⟨p, e0⟩ := el_int _ _ _ h0
    obtain ⟨q, e1, _⟩ := DataW.trod_bool undBool h1
    simp [cInt] at e0 e1
    exact ⟨⟨p, q⟩, by simp [cWant, e0, e1]⟩
set_option maxRecDepth 100000 in
theorem open_lock {v : Value} {d : DataW H} {p : List MemPlace} (hv : Value.okWide Try.prog W .any base 46 v) (h : DataW.Trod enc Try.prog W 0 (fun _ => true) true 46 v d p) :
    ∃ (m : Lock) (i s : Sl), v = lockV m i s ∧ At W [slo i cInt 1 m.readers, slo s cWant 2 m.queue] := by
  obtain ⟨vs, rfl, _⟩ := okWide_struct structC hv
  obtain ⟨fuel, hf⟩ := h
  obtain ⟨hl, k, hx⟩ := trod_fields structC fieldsC (sz := 3) (by kernel_rfl) hf
  obtain ⟨cs⟩ := vs
  have hl : cs.length = 3 := hl
  match cs, hl with
  | [a, b, c], _ =>
    obtain ⟨_, h0⟩ := hx 0 _ _ _ rfl
    obtain ⟨_, h1⟩ := hx 1 _ _ _ rfl
    obtain ⟨_, h2⟩ := hx 2 _ _ _ rfl
    obtain ⟨r, e1⟩ := el_int _ _ _ h1
    obtain ⟨i, xs, e0, r0, f0⟩ := open_sl encInt Nat.zero_lt_one undIs (by kernel_rfl) el_int h0
    obtain ⟨s, ls, e2, r2, f2⟩ := open_sl encWant (by decide) undWs (by kernel_rfl) el_want h2
    refine ⟨⟨xs, r, ls⟩, i, s, ?_, ⟨r0, f0⟩, ⟨r2, f2⟩, trivial⟩
    simp [cInt, Value.cells] at e0 e1 e2
    simp [lockV, e0, e1, e2]
end

set_option maxRecDepth 100000 in
theorem exact3_lifted {f : FuncId} {fn : Func} {s : ChangeSpec} {conds : List PathCond} (hf : Try.checked.prog.funcs[f]? = some fn) (hfn : Try.checked.prog.inits.idxOf? f = none) (hpl : fn.params = #[46, 3, 4]) (hres : fn.resultTypes = #[4]) (hvars : s.vars = [])
    (hspec : ∀ (H : Type) (d1 d2 d3 : DataW H), s.fn H [d1, d2, d3] = { results := [.lit (.bool true)], args := [d1, d2, d3] })
    (hc : ∀ (m : Lock) (i q : Sl) (t : Int) (u : Bool) (w : World), At w [slo i cInt 1 m.readers, slo q cWant 2 m.queue] → Calls Try.prog f #[lockV m i q, .int .i64 t, .bool u] w (Ret w fun v L => v = .bool true ∧ L = []))
    (os : Os) (started : os.Started) (H : Type) (enc : TypeId × Value → H)
    (wit : ∃ (w : World) (tape : Tape) (i : Input), w.os = os ∧ (w.forCall tape i).Shaped Try.checked.prog ∧ i.vars = [] ∧ Input.okWide Try.checked.prog (w.forCall tape i) .any w.heap.size f i ∧
      s.pre6 enc Try.checked.prog fn conds false (w.forCall tape i).memory i.args ∧ ({} : Assume).holds Try.checked.prog (lone (Frame.enter Try.checked.prog f i.args .normal) [] (w.forCall tape i))) :
    ReturnsInHanded {} Try.checked os f .any (s.pre6 enc Try.checked.prog fn conds false) (s.post enc Try.checked.prog fn false true false false) := by
  refine returnsInHanded_of_change (C := Try.checked) ownNone started hfn hf wit ?_
  intro W base args ds gs before hval hW _ _
  have hW' := hW
  obtain ⟨p, q, hA0, hV, _, _, _⟩ := hW
  rw [hpl] at hA0
  have hA : DataW.TrodAll enc Try.prog W 0 (fun _ => true) true [46, 3, 4] args.toList ds p := hA0
  obtain ⟨v0, vs0, d0, ds0, p0, q0, e0, rfl, _, h0, hA⟩ := trodAll_cons hA
  obtain ⟨v1, vs1, d1, ds1, p1, q1, rfl, rfl, _, h1, hA⟩ := trodAll_cons hA
  obtain ⟨v2, vs2, d2, ds2, p2, q2, rfl, rfl, _, h2, hA⟩ := trodAll_cons hA
  obtain ⟨rfl, rfl, _⟩ := trodAll_nil hA
  obtain rfl : args = #[v0, v1, v2] := by apply Array.ext'; simpa using e0
  obtain ⟨m, i, sq, rfl, hat⟩ := open_lock (hval 0 46 v0 (by rw [hpl]; rfl) rfl) h0
  obtain ⟨t, rfl, _⟩ := open_int undI (hval 1 3 v1 (by rw [hpl]; rfl) rfl) h1
  obtain ⟨u, rfl, _⟩ := open_bool undBool (hval 2 4 v2 (by rw [hpl]; rfl) rfl) h2
  refine (hc m i sq t u W hat).mono fun e W' hR => ?_
  obtain ⟨v, L, rfl, he, _, rfl, _⟩ := hR
  rw [hvars] at hV
  obtain ⟨rfl, _⟩ := trodVars_none hV
  exact ⟨_, rfl, law_post (P := Try.prog) laidOut (pl := [46, 3, 4]) (by rw [hpl]) (by kernel_rfl) hvars hres undBool (hspec H d0 d1 d2) hW' he.below⟩
set_option maxRecDepth 100000 in
theorem exact2_lifted {f : FuncId} {fn : Func} {s : ChangeSpec} {conds : List PathCond} (hf : Try.checked.prog.funcs[f]? = some fn) (hfn : Try.checked.prog.inits.idxOf? f = none) (hpl : fn.params = #[46, 3]) (hres : fn.resultTypes = #[4]) (hvars : s.vars = [])
    (hspec : ∀ (H : Type) (d1 d2 : DataW H), s.fn H [d1, d2] = { results := [.lit (.bool true)], args := [d1, d2] })
    (hc : ∀ (m : Lock) (i q : Sl) (t : Int) (w : World), At w [slo i cInt 1 m.readers, slo q cWant 2 m.queue] → Calls Try.prog f #[lockV m i q, .int .i64 t] w (Ret w fun v L => v = .bool true ∧ L = []))
    (os : Os) (started : os.Started) (H : Type) (enc : TypeId × Value → H)
    (wit : ∃ (w : World) (tape : Tape) (i : Input), w.os = os ∧ (w.forCall tape i).Shaped Try.checked.prog ∧ i.vars = [] ∧ Input.okWide Try.checked.prog (w.forCall tape i) .any w.heap.size f i ∧
      s.pre6 enc Try.checked.prog fn conds false (w.forCall tape i).memory i.args ∧ ({} : Assume).holds Try.checked.prog (lone (Frame.enter Try.checked.prog f i.args .normal) [] (w.forCall tape i))) :
    ReturnsInHanded {} Try.checked os f .any (s.pre6 enc Try.checked.prog fn conds false) (s.post enc Try.checked.prog fn false true false false) := by
  refine returnsInHanded_of_change (C := Try.checked) ownNone started hfn hf wit ?_
  intro W base args ds gs before hval hW _ _
  have hW' := hW
  obtain ⟨p, q, hA0, hV, _, _, _⟩ := hW
  rw [hpl] at hA0
  have hA : DataW.TrodAll enc Try.prog W 0 (fun _ => true) true [46, 3] args.toList ds p := hA0
  obtain ⟨v0, vs0, d0, ds0, p0, q0, e0, rfl, _, h0, hA⟩ := trodAll_cons hA
  obtain ⟨v1, vs1, d1, ds1, p1, q1, rfl, rfl, _, h1, hA⟩ := trodAll_cons hA
  obtain ⟨rfl, rfl, _⟩ := trodAll_nil hA
  obtain rfl : args = #[v0, v1] := by apply Array.ext'; simpa using e0
  obtain ⟨m, i, sq, rfl, hat⟩ := open_lock (hval 0 46 v0 (by rw [hpl]; rfl) rfl) h0
  obtain ⟨t, rfl, _⟩ := open_int undI (hval 1 3 v1 (by rw [hpl]; rfl) rfl) h1
  refine (hc m i sq t W hat).mono fun e W' hR => ?_
  obtain ⟨v, L, rfl, he, _, rfl, _⟩ := hR
  rw [hvars] at hV
  obtain ⟨rfl, _⟩ := trodVars_none hV
  exact ⟨_, rfl, law_post (P := Try.prog) laidOut (pl := [46, 3]) (by rw [hpl]) (by kernel_rfl) hvars hres undBool (hspec H d0 d1) hW' he.below⟩
end Go.Proofs.Ytpemppacedfifaa

