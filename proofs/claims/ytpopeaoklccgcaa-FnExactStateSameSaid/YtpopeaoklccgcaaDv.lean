/- Programs and states as arguments of the exact laws. -/
import Derived.Test.YtpopeaoklccgcaaChs
import Derived.Test.YtpopeaoklccgcaaDl
import Derived.Test.YtpopeaoklccgcaaSxv
namespace Go.Proofs.Ytpopeaoklccgcaa

open Go Go.Sx Go.RowKit Go.ChangeShapes Go.WideShapes

theorem undI : Try.prog.underlying 3 = some (.int .i64) := by kernel_rfl

theorem undIs : Try.prog.underlying 22 = some (.slice 3) := by kernel_rfl

theorem el_int {H : Type} {enc : TypeId × Value → H} {W : World} : ∀ (n : Nat) (cs : List Value) (y : DataW H × List MemPlace), DataW.trod enc Try.prog W 0 (fun _ => true) true n 3 cs = some y → ∃ a : Int, cs = cInt a := fun n cs y hy => by
  obtain ⟨k, h1, _, _⟩ := DataW.trod_int undI hy
  exact ⟨k, h1⟩

theorem structWaiter : Try.prog.underlying 200 = some (.struct (Try.prog.fieldsOf 200)) := by kernel_rfl

theorem fieldsWaiter : (Try.prog.fieldsOf 200).toList.map (fun f => (f.type, f.offset, Try.prog.cellsOf f.type)) = [(3, 0, 1), (3, 1, 1)] := by kernel_rfl

theorem undWaiterS : Try.prog.underlying 138 = some (.slice 200) := by kernel_rfl

set_option maxRecDepth 100000 in
theorem el_Waiter {H : Type} {enc : TypeId × Value → H} {W : World} : ∀ (n : Nat) (cs : List Value) (y : DataW H × List MemPlace), DataW.trod enc Try.prog W 0 (fun _ => true) true n 200 cs = some y → ∃ a : Waiter, cs = cWaiter a := fun n cs y hy => by
  obtain ⟨hl, k, hx⟩ := trod_fields structWaiter fieldsWaiter (sz := 2) (by kernel_rfl) hy
  match cs, hl with
  | [a0, a1], _ =>
    obtain ⟨_, h0⟩ := hx 0 _ _ _ rfl
    obtain ⟨p0, e0⟩ := el_int _ _ _ h0
    obtain ⟨_, h1⟩ := hx 1 _ _ _ rfl
    obtain ⟨p1, e1⟩ := el_int _ _ _ h1
    simp [cInt] at e0 e1
    exact ⟨⟨p0, p1⟩, by simp [cWaiter, e0, e1]⟩

theorem structLetter : Try.prog.underlying 202 = some (.struct (Try.prog.fieldsOf 202)) := by kernel_rfl

theorem fieldsLetter : (Try.prog.fieldsOf 202).toList.map (fun f => (f.type, f.offset, Try.prog.cellsOf f.type)) = [(3, 0, 1), (3, 1, 1)] := by kernel_rfl

theorem undLetterS : Try.prog.underlying 148 = some (.slice 202) := by kernel_rfl

set_option maxRecDepth 100000 in
theorem el_Letter {H : Type} {enc : TypeId × Value → H} {W : World} : ∀ (n : Nat) (cs : List Value) (y : DataW H × List MemPlace), DataW.trod enc Try.prog W 0 (fun _ => true) true n 202 cs = some y → ∃ a : Letter, cs = cLet a := fun n cs y hy => by
  obtain ⟨hl, k, hx⟩ := trod_fields structLetter fieldsLetter (sz := 2) (by kernel_rfl) hy
  match cs, hl with
  | [a0, a1], _ =>
    obtain ⟨_, h0⟩ := hx 0 _ _ _ rfl
    obtain ⟨p0, e0⟩ := el_int _ _ _ h0
    obtain ⟨_, h1⟩ := hx 1 _ _ _ rfl
    obtain ⟨p1, e1⟩ := el_int _ _ _ h1
    simp [cInt] at e0 e1
    exact ⟨⟨p0, p1⟩, by simp [cLet, e0, e1]⟩

theorem structOp : Try.prog.underlying 197 = some (.struct (Try.prog.fieldsOf 197)) := by kernel_rfl

theorem fieldsOp : (Try.prog.fieldsOf 197).toList.map (fun f => (f.type, f.offset, Try.prog.cellsOf f.type)) = [(3, 0, 1), (3, 1, 1), (3, 2, 1)] := by kernel_rfl

theorem undOpS : Try.prog.underlying 172 = some (.slice 197) := by kernel_rfl

set_option maxRecDepth 100000 in
theorem el_Op {H : Type} {enc : TypeId × Value → H} {W : World} : ∀ (n : Nat) (cs : List Value) (y : DataW H × List MemPlace), DataW.trod enc Try.prog W 0 (fun _ => true) true n 197 cs = some y → ∃ a : Op, cs = cOp a := fun n cs y hy => by
  obtain ⟨hl, k, hx⟩ := trod_fields structOp fieldsOp (sz := 3) (by kernel_rfl) hy
  match cs, hl with
  | [a0, a1, a2], _ =>
    obtain ⟨_, h0⟩ := hx 0 _ _ _ rfl
    obtain ⟨p0, e0⟩ := el_int _ _ _ h0
    obtain ⟨_, h1⟩ := hx 1 _ _ _ rfl
    obtain ⟨p1, e1⟩ := el_int _ _ _ h1
    obtain ⟨_, h2⟩ := hx 2 _ _ _ rfl
    obtain ⟨p2, e2⟩ := el_int _ _ _ h2
    simp [cInt] at e0 e1 e2
    exact ⟨⟨p0, p1, p2⟩, by simp [cOp, e0, e1, e2]⟩

theorem undOpSS : Try.prog.underlying 53 = some (.slice 172) := by kernel_rfl

theorem el_OpS {H : Type} {enc : TypeId × Value → H} {W : World} : ∀ (n : Nat) (cs : List Value) (y : DataW H × List MemPlace), DataW.trod enc Try.prog W 0 (fun _ => true) true n 172 cs = some y → ∃ a : OpSH, cs = cOpSH a ∧ AllR W (opSO a) := fun n cs y hy => by
  obtain ⟨i, xs, e, r, f⟩ := open_sl encOp (by decide) undOpS (by kernel_rfl) el_Op hy
  exact ⟨⟨xs, i⟩, e, AllR.cons ⟨r, f⟩ (AllR.nil W)⟩

theorem structSem : Try.prog.underlying 140 = some (.struct (Try.prog.fieldsOf 140)) := by kernel_rfl

theorem fieldsSem : (Try.prog.fieldsOf 140).toList.map (fun f => (f.type, f.offset, Try.prog.cellsOf f.type)) = [(3, 0, 1), (3, 1, 1), (138, 2, 1)] := by kernel_rfl

theorem undSemS : Try.prog.underlying 23 = some (.slice 140) := by kernel_rfl

set_option maxRecDepth 100000 in
theorem el_Sem {H : Type} {enc : TypeId × Value → H} {W : World} : ∀ (n : Nat) (cs : List Value) (y : DataW H × List MemPlace), DataW.trod enc Try.prog W 0 (fun _ => true) true n 140 cs = some y → ∃ a : SemH, cs = cSemH a ∧ AllR W (semO a) := fun n cs y hy => by
  obtain ⟨hl, k, hx⟩ := trod_fields structSem fieldsSem (sz := 3) (by kernel_rfl) hy
  match cs, hl with
  | [a0, a1, a2], _ =>
    obtain ⟨_, h0⟩ := hx 0 _ _ _ rfl
    obtain ⟨p0, e0⟩ := el_int _ _ _ h0
    obtain ⟨_, h1⟩ := hx 1 _ _ _ rfl
    obtain ⟨p1, e1⟩ := el_int _ _ _ h1
    obtain ⟨_, h2⟩ := hx 2 _ _ _ rfl
    obtain ⟨i2, p2, e2, r2, f2⟩ := open_sl encWaiter (by decide) undWaiterS (by kernel_rfl) el_Waiter h2
    simp [cInt, Value.cells] at e0 e1 e2
    exact ⟨⟨⟨p0, p1, p2⟩, i2⟩, by simp [cSemH, e0, e1, e2], AllR.cons ⟨r2, f2⟩ (AllR.nil W)⟩

theorem structOnce : Try.prog.underlying 142 = some (.struct (Try.prog.fieldsOf 142)) := by kernel_rfl

theorem fieldsOnce : (Try.prog.fieldsOf 142).toList.map (fun f => (f.type, f.offset, Try.prog.cellsOf f.type)) = [(3, 0, 1), (3, 1, 1), (3, 2, 1), (22, 3, 1)] := by kernel_rfl

theorem undOnceS : Try.prog.underlying 24 = some (.slice 142) := by kernel_rfl

set_option maxRecDepth 100000 in
theorem el_Once {H : Type} {enc : TypeId × Value → H} {W : World} : ∀ (n : Nat) (cs : List Value) (y : DataW H × List MemPlace), DataW.trod enc Try.prog W 0 (fun _ => true) true n 142 cs = some y → ∃ a : OnceH, cs = cOnceH a ∧ AllR W (onceO a) := fun n cs y hy => by
  obtain ⟨hl, k, hx⟩ := trod_fields structOnce fieldsOnce (sz := 4) (by kernel_rfl) hy
  match cs, hl with
  | [a0, a1, a2, a3], _ =>
    obtain ⟨_, h0⟩ := hx 0 _ _ _ rfl
    obtain ⟨p0, e0⟩ := el_int _ _ _ h0
    obtain ⟨_, h1⟩ := hx 1 _ _ _ rfl
    obtain ⟨p1, e1⟩ := el_int _ _ _ h1
    obtain ⟨_, h2⟩ := hx 2 _ _ _ rfl
    obtain ⟨p2, e2⟩ := el_int _ _ _ h2
    obtain ⟨_, h3⟩ := hx 3 _ _ _ rfl
    obtain ⟨i3, p3, e3, r3, f3⟩ := open_sl encInt Nat.zero_lt_one undIs (by kernel_rfl) el_int h3
    simp [cInt, Value.cells] at e0 e1 e2 e3
    exact ⟨⟨⟨p0, p1, p2, p3⟩, i3⟩, by simp [cOnceH, e0, e1, e2, e3], AllR.cons ⟨r3, f3⟩ (AllR.nil W)⟩

theorem structGroup : Try.prog.underlying 144 = some (.struct (Try.prog.fieldsOf 144)) := by kernel_rfl

theorem fieldsGroup : (Try.prog.fieldsOf 144).toList.map (fun f => (f.type, f.offset, Try.prog.cellsOf f.type)) = [(3, 0, 1), (22, 1, 1)] := by kernel_rfl

theorem undGroupS : Try.prog.underlying 25 = some (.slice 144) := by kernel_rfl

set_option maxRecDepth 100000 in
theorem el_Group {H : Type} {enc : TypeId × Value → H} {W : World} : ∀ (n : Nat) (cs : List Value) (y : DataW H × List MemPlace), DataW.trod enc Try.prog W 0 (fun _ => true) true n 144 cs = some y → ∃ a : GroupH, cs = cGroupH a ∧ AllR W (groupO a) := fun n cs y hy => by
  obtain ⟨hl, k, hx⟩ := trod_fields structGroup fieldsGroup (sz := 2) (by kernel_rfl) hy
  match cs, hl with
  | [a0, a1], _ =>
    obtain ⟨_, h0⟩ := hx 0 _ _ _ rfl
    obtain ⟨p0, e0⟩ := el_int _ _ _ h0
    obtain ⟨_, h1⟩ := hx 1 _ _ _ rfl
    obtain ⟨i1, p1, e1, r1, f1⟩ := open_sl encInt Nat.zero_lt_one undIs (by kernel_rfl) el_int h1
    simp [cInt, Value.cells] at e0 e1
    exact ⟨⟨⟨p0, p1⟩, i1⟩, by simp [cGroupH, e0, e1], AllR.cons ⟨r1, f1⟩ (AllR.nil W)⟩

theorem structBarrier : Try.prog.underlying 146 = some (.struct (Try.prog.fieldsOf 146)) := by kernel_rfl

theorem fieldsBarrier : (Try.prog.fieldsOf 146).toList.map (fun f => (f.type, f.offset, Try.prog.cellsOf f.type)) = [(3, 0, 1), (3, 1, 1), (22, 2, 1)] := by kernel_rfl

theorem undBarrierS : Try.prog.underlying 26 = some (.slice 146) := by kernel_rfl

set_option maxRecDepth 100000 in
theorem el_Barrier {H : Type} {enc : TypeId × Value → H} {W : World} : ∀ (n : Nat) (cs : List Value) (y : DataW H × List MemPlace), DataW.trod enc Try.prog W 0 (fun _ => true) true n 146 cs = some y → ∃ a : BarrierH, cs = cBarrierH a ∧ AllR W (barrierO a) := fun n cs y hy => by
  obtain ⟨hl, k, hx⟩ := trod_fields structBarrier fieldsBarrier (sz := 3) (by kernel_rfl) hy
  match cs, hl with
  | [a0, a1, a2], _ =>
    obtain ⟨_, h0⟩ := hx 0 _ _ _ rfl
    obtain ⟨p0, e0⟩ := el_int _ _ _ h0
    obtain ⟨_, h1⟩ := hx 1 _ _ _ rfl
    obtain ⟨p1, e1⟩ := el_int _ _ _ h1
    obtain ⟨_, h2⟩ := hx 2 _ _ _ rfl
    obtain ⟨i2, p2, e2, r2, f2⟩ := open_sl encInt Nat.zero_lt_one undIs (by kernel_rfl) el_int h2
    simp [cInt, Value.cells] at e0 e1 e2
    exact ⟨⟨⟨p0, p1, p2⟩, i2⟩, by simp [cBarrierH, e0, e1, e2], AllR.cons ⟨r2, f2⟩ (AllR.nil W)⟩

theorem structChan : Try.prog.underlying 150 = some (.struct (Try.prog.fieldsOf 150)) := by kernel_rfl

theorem fieldsChan : (Try.prog.fieldsOf 150).toList.map (fun f => (f.type, f.offset, Try.prog.cellsOf f.type)) = [(3, 0, 1), (22, 1, 1), (148, 2, 1), (22, 3, 1), (4, 4, 1)] := by kernel_rfl

theorem undChanS : Try.prog.underlying 27 = some (.slice 150) := by kernel_rfl

set_option maxRecDepth 100000 in
theorem el_Chan {H : Type} {enc : TypeId × Value → H} {W : World} : ∀ (n : Nat) (cs : List Value) (y : DataW H × List MemPlace), DataW.trod enc Try.prog W 0 (fun _ => true) true n 150 cs = some y → ∃ a : ChanH, cs = cChanH a ∧ AllR W (chanO a) := fun n cs y hy => by
  obtain ⟨hl, k, hx⟩ := trod_fields structChan fieldsChan (sz := 5) (by kernel_rfl) hy
  match cs, hl with
  | [a0, a1, a2, a3, a4], _ =>
    obtain ⟨_, h0⟩ := hx 0 _ _ _ rfl
    obtain ⟨p0, e0⟩ := el_int _ _ _ h0
    obtain ⟨_, h1⟩ := hx 1 _ _ _ rfl
    obtain ⟨i1, p1, e1, r1, f1⟩ := open_sl encInt Nat.zero_lt_one undIs (by kernel_rfl) el_int h1
    obtain ⟨_, h2⟩ := hx 2 _ _ _ rfl
    obtain ⟨i2, p2, e2, r2, f2⟩ := open_sl encLet (by decide) undLetterS (by kernel_rfl) el_Letter h2
    obtain ⟨_, h3⟩ := hx 3 _ _ _ rfl
    obtain ⟨i3, p3, e3, r3, f3⟩ := open_sl encInt Nat.zero_lt_one undIs (by kernel_rfl) el_int h3
    obtain ⟨_, h4⟩ := hx 4 _ _ _ rfl
    obtain ⟨p4, e4, _⟩ := DataW.trod_bool undBool h4
    simp [cInt, Value.cells] at e0 e1 e2 e3 e4
    exact ⟨⟨⟨p0, p1, p2, p3, p4⟩, i1, i2, i3⟩, by simp [cChanH, e0, e1, e2, e3, e4], AllR.cons ⟨r1, f1⟩ (AllR.cons ⟨r2, f2⟩ (AllR.cons ⟨r3, f3⟩ (AllR.nil W)))⟩

theorem structProg : Try.prog.underlying 55 = some (.struct (Try.prog.fieldsOf 55)) := by kernel_rfl

theorem fieldsProg : (Try.prog.fieldsOf 55).toList.map (fun f => (f.type, f.offset, Try.prog.cellsOf f.type)) = [(22, 0, 1), (22, 1, 1), (22, 2, 1), (22, 3, 1), (53, 4, 1)] := by kernel_rfl

set_option maxRecDepth 100000 in
theorem open_Prog {H : Type} {enc : TypeId × Value → H} {W : World} {base : Nat} {v : Value} {d : DataW H} {p : List MemPlace} (hv : Value.okWide Try.prog W .any base 55 v) (h : DataW.Trod enc Try.prog W 0 (fun _ => true) true 55 v d p) :
    ∃ s : ProgH, v = progV s ∧ (fR (progO s)).P W ∧ ∀ b, (fR (progO s)).foot b → b < W.heap.size := by
  obtain ⟨vs, rfl, _⟩ := okWide_struct structProg hv
  obtain ⟨fuel, hf⟩ := h
  obtain ⟨hl, k, hx⟩ := trod_fields structProg fieldsProg (sz := 5) (by kernel_rfl) hf
  obtain ⟨cs⟩ := vs
  have hl : cs.length = 5 := hl
  match cs, hl with
  | [a0, a1, a2, a3, a4], _ =>
    obtain ⟨_, h0⟩ := hx 0 _ _ _ rfl
    obtain ⟨i0, p0, e0, r0, f0⟩ := open_sl encInt Nat.zero_lt_one undIs (by kernel_rfl) el_int h0
    obtain ⟨_, h1⟩ := hx 1 _ _ _ rfl
    obtain ⟨i1, p1, e1, r1, f1⟩ := open_sl encInt Nat.zero_lt_one undIs (by kernel_rfl) el_int h1
    obtain ⟨_, h2⟩ := hx 2 _ _ _ rfl
    obtain ⟨i2, p2, e2, r2, f2⟩ := open_sl encInt Nat.zero_lt_one undIs (by kernel_rfl) el_int h2
    obtain ⟨_, h3⟩ := hx 3 _ _ _ rfl
    obtain ⟨i3, p3, e3, r3, f3⟩ := open_sl encInt Nat.zero_lt_one undIs (by kernel_rfl) el_int h3
    obtain ⟨_, h4⟩ := hx 4 _ _ _ rfl
    obtain ⟨i4, p4, e4, r4, f4, q4⟩ := open_slQ encOpSH (by decide) undOpSS (by kernel_rfl) el_OpS h4
    simp [cInt, Value.cells] at e0 e1 e2 e3 e4
    refine ⟨⟨p0, p1, p2, p3, p4, i0, i1, i2, i3, i4⟩, ?_, AllR.at ?_⟩
    · simp [progV, e0, e1, e2, e3, e4]
    · exact AllR.cons ⟨r0, f0⟩ (AllR.cons ⟨r1, f1⟩ (AllR.cons ⟨r2, f2⟩ (AllR.cons ⟨r3, f3⟩ ((AllR.cons ⟨r4, f4⟩ (AllR.flat q4))))))

theorem structState : Try.prog.underlying 29 = some (.struct (Try.prog.fieldsOf 29)) := by kernel_rfl

theorem fieldsState : (Try.prog.fieldsOf 29).toList.map (fun f => (f.type, f.offset, Try.prog.cellsOf f.type)) = [(22, 0, 1), (22, 1, 1), (23, 2, 1), (24, 3, 1), (25, 4, 1), (26, 5, 1), (27, 6, 1), (22, 7, 1), (3, 8, 1)] := by kernel_rfl

set_option maxRecDepth 100000 in
theorem open_State {H : Type} {enc : TypeId × Value → H} {W : World} {base : Nat} {v : Value} {d : DataW H} {p : List MemPlace} (hv : Value.okWide Try.prog W .any base 29 v) (h : DataW.Trod enc Try.prog W 0 (fun _ => true) true 29 v d p) :
    ∃ s : StateH, v = stateV s ∧ (fR (stateO s)).P W ∧ ∀ b, (fR (stateO s)).foot b → b < W.heap.size := by
  obtain ⟨vs, rfl, _⟩ := okWide_struct structState hv
  obtain ⟨fuel, hf⟩ := h
  obtain ⟨hl, k, hx⟩ := trod_fields structState fieldsState (sz := 9) (by kernel_rfl) hf
  obtain ⟨cs⟩ := vs
  have hl : cs.length = 9 := hl
  match cs, hl with
  | [a0, a1, a2, a3, a4, a5, a6, a7, a8], _ =>
    obtain ⟨_, h0⟩ := hx 0 _ _ _ rfl
    obtain ⟨i0, p0, e0, r0, f0⟩ := open_sl encInt Nat.zero_lt_one undIs (by kernel_rfl) el_int h0
    obtain ⟨_, h1⟩ := hx 1 _ _ _ rfl
    obtain ⟨i1, p1, e1, r1, f1⟩ := open_sl encInt Nat.zero_lt_one undIs (by kernel_rfl) el_int h1
    obtain ⟨_, h2⟩ := hx 2 _ _ _ rfl
    obtain ⟨i2, p2, e2, r2, f2, q2⟩ := open_slQ encSemH (by decide) undSemS (by kernel_rfl) el_Sem h2
    obtain ⟨_, h3⟩ := hx 3 _ _ _ rfl
    obtain ⟨i3, p3, e3, r3, f3, q3⟩ := open_slQ encOnceH (by decide) undOnceS (by kernel_rfl) el_Once h3
    obtain ⟨_, h4⟩ := hx 4 _ _ _ rfl
    obtain ⟨i4, p4, e4, r4, f4, q4⟩ := open_slQ encGroupH (by decide) undGroupS (by kernel_rfl) el_Group h4
    obtain ⟨_, h5⟩ := hx 5 _ _ _ rfl
    obtain ⟨i5, p5, e5, r5, f5, q5⟩ := open_slQ encBarrierH (by decide) undBarrierS (by kernel_rfl) el_Barrier h5
    obtain ⟨_, h6⟩ := hx 6 _ _ _ rfl
    obtain ⟨i6, p6, e6, r6, f6, q6⟩ := open_slQ encChanH (by decide) undChanS (by kernel_rfl) el_Chan h6
    obtain ⟨_, h7⟩ := hx 7 _ _ _ rfl
    obtain ⟨i7, p7, e7, r7, f7⟩ := open_sl encInt Nat.zero_lt_one undIs (by kernel_rfl) el_int h7
    obtain ⟨_, h8⟩ := hx 8 _ _ _ rfl
    obtain ⟨p8, e8⟩ := el_int _ _ _ h8
    simp [cInt, Value.cells] at e0 e1 e2 e3 e4 e5 e6 e7 e8
    refine ⟨⟨p0, p1, p2, p3, p4, p5, p6, p7, p8, i0, i1, i2, i3, i4, i5, i6, i7⟩, ?_, AllR.at ?_⟩
    · simp [stateV, e0, e1, e2, e3, e4, e5, e6, e7, e8]
    · exact AllR.cons ⟨r0, f0⟩ (AllR.cons ⟨r1, f1⟩ ((AllR.append (AllR.cons ⟨r2, f2⟩ (AllR.flat q2)) (AllR.append (AllR.cons ⟨r3, f3⟩ (AllR.flat q3)) (AllR.append (AllR.cons ⟨r4, f4⟩ (AllR.flat q4)) (AllR.append (AllR.cons ⟨r5, f5⟩ (AllR.flat q5)) (AllR.append (AllR.cons ⟨r6, f6⟩ (AllR.flat q6)) (AllR.cons ⟨r7, f7⟩ (AllR.nil W)))))))))

set_option maxRecDepth 100000 in
theorem lifted_SS {f : FuncId} {fn : Func} {s : ChangeSpec} {conds : List PathCond} (hf : Try.checked.prog.funcs[f]? = some fn) (hfn : Try.checked.prog.inits.idxOf? f = none) (hpl : fn.params = #[29, 29]) (hres : fn.resultTypes = #[4]) (hvars : s.vars = [])
    (hspec : ∀ (H : Type) (d0 d1 : DataW H), s.fn H [d0, d1] = { results := [.lit (.bool true)], args := [d0, d1] })
    (hc : ∀ (x0 : StateH) (x1 : StateH) (w : World), At w [fR (stateO x0), fR (stateO x1)] → Calls Try.prog f #[stateV x0, stateV x1] w (Ret w fun v L => v = .bool true ∧ L = []))
    (os : Os) (started : os.Started) (H : Type) (enc : TypeId × Value → H)
    (wit : ∃ (w : World) (tape : Tape) (i : Input), w.os = os ∧ (w.forCall tape i).Shaped Try.checked.prog ∧ i.vars = [] ∧ Input.okWide Try.checked.prog (w.forCall tape i) .any w.heap.size f i ∧
      s.pre6 enc Try.checked.prog fn conds false (w.forCall tape i).memory i.args ∧ ({} : Assume).holds Try.checked.prog (lone (Frame.enter Try.checked.prog f i.args .normal) [] (w.forCall tape i))) :
    ReturnsInHanded {} Try.checked os f .any (s.pre6 enc Try.checked.prog fn conds false) (s.post enc Try.checked.prog fn false true false false) := by
  refine returnsInHanded_of_change (C := Try.checked) ownNone started hfn hf wit ?_
  intro W base args ds gs before hval hW _ _
  have hW' := hW
  obtain ⟨p, q, hA0, hV, _, _, _⟩ := hW
  rw [hpl] at hA0
  have hA : DataW.TrodAll enc Try.prog W 0 (fun _ => true) true [29, 29] args.toList ds p := hA0
  obtain ⟨v0, vs0, d0, ds0, p0, q0, e0, rfl, _, h0, hA⟩ := trodAll_cons hA
  obtain ⟨v1, vs1, d1, ds1, p1, q1, rfl, rfl, _, h1, hA⟩ := trodAll_cons hA
  obtain ⟨rfl, rfl, _⟩ := trodAll_nil hA
  obtain rfl : args = #[v0, v1] := by apply Array.ext'; simpa using e0
  obtain ⟨x0, rfl, hat0⟩ := open_State (hval 0 29 v0 (by rw [hpl]; rfl) rfl) h0
  obtain ⟨x1, rfl, hat1⟩ := open_State (hval 1 29 v1 (by rw [hpl]; rfl) rfl) h1
  refine (hc x0 x1 W ⟨hat0, hat1, trivial⟩).mono fun e W' hR => ?_
  obtain ⟨v, L, rfl, he, _, rfl, _⟩ := hR
  rw [hvars] at hV
  obtain ⟨rfl, _⟩ := trodVars_none hV
  exact ⟨_, rfl, law_post (P := Try.prog) laidOut (pl := [29, 29]) (by rw [hpl]) (by kernel_rfl) hvars hres undBool (hspec H d0 d1) hW' he.below⟩

set_option maxRecDepth 100000 in
theorem lifted_P {f : FuncId} {fn : Func} {s : ChangeSpec} {conds : List PathCond} (hf : Try.checked.prog.funcs[f]? = some fn) (hfn : Try.checked.prog.inits.idxOf? f = none) (hpl : fn.params = #[55]) (hres : fn.resultTypes = #[4]) (hvars : s.vars = [])
    (hspec : ∀ (H : Type) (d0 : DataW H), s.fn H [d0] = { results := [.lit (.bool true)], args := [d0] })
    (hc : ∀ (x0 : ProgH) (w : World), At w [fR (progO x0)] → Calls Try.prog f #[progV x0] w (Ret w fun v L => v = .bool true ∧ L = []))
    (os : Os) (started : os.Started) (H : Type) (enc : TypeId × Value → H)
    (wit : ∃ (w : World) (tape : Tape) (i : Input), w.os = os ∧ (w.forCall tape i).Shaped Try.checked.prog ∧ i.vars = [] ∧ Input.okWide Try.checked.prog (w.forCall tape i) .any w.heap.size f i ∧
      s.pre6 enc Try.checked.prog fn conds false (w.forCall tape i).memory i.args ∧ ({} : Assume).holds Try.checked.prog (lone (Frame.enter Try.checked.prog f i.args .normal) [] (w.forCall tape i))) :
    ReturnsInHanded {} Try.checked os f .any (s.pre6 enc Try.checked.prog fn conds false) (s.post enc Try.checked.prog fn false true false false) := by
  refine returnsInHanded_of_change (C := Try.checked) ownNone started hfn hf wit ?_
  intro W base args ds gs before hval hW _ _
  have hW' := hW
  obtain ⟨p, q, hA0, hV, _, _, _⟩ := hW
  rw [hpl] at hA0
  have hA : DataW.TrodAll enc Try.prog W 0 (fun _ => true) true [55] args.toList ds p := hA0
  obtain ⟨v0, d0, rfl, rfl, h0⟩ := trodAll_one hA
  obtain ⟨x0, rfl, hat0⟩ := open_Prog (hval 0 55 v0 (by rw [hpl]; rfl) rfl) h0
  refine (hc x0 W ⟨hat0, trivial⟩).mono fun e W' hR => ?_
  obtain ⟨v, L, rfl, he, _, rfl, _⟩ := hR
  rw [hvars] at hV
  obtain ⟨rfl, _⟩ := trodVars_none hV
  exact ⟨_, rfl, law_post (P := Try.prog) laidOut (pl := [55]) (by rw [hpl]) (by kernel_rfl) hvars hres undBool (hspec H d0) hW' he.below⟩

set_option maxRecDepth 100000 in
theorem lifted_PS {f : FuncId} {fn : Func} {s : ChangeSpec} {conds : List PathCond} (hf : Try.checked.prog.funcs[f]? = some fn) (hfn : Try.checked.prog.inits.idxOf? f = none) (hpl : fn.params = #[55, 29]) (hres : fn.resultTypes = #[4]) (hvars : s.vars = [])
    (hspec : ∀ (H : Type) (d0 d1 : DataW H), s.fn H [d0, d1] = { results := [.lit (.bool true)], args := [d0, d1] })
    (hc : ∀ (x0 : ProgH) (x1 : StateH) (w : World), At w [fR (progO x0), fR (stateO x1)] → Calls Try.prog f #[progV x0, stateV x1] w (Ret w fun v L => v = .bool true ∧ L = []))
    (os : Os) (started : os.Started) (H : Type) (enc : TypeId × Value → H)
    (wit : ∃ (w : World) (tape : Tape) (i : Input), w.os = os ∧ (w.forCall tape i).Shaped Try.checked.prog ∧ i.vars = [] ∧ Input.okWide Try.checked.prog (w.forCall tape i) .any w.heap.size f i ∧
      s.pre6 enc Try.checked.prog fn conds false (w.forCall tape i).memory i.args ∧ ({} : Assume).holds Try.checked.prog (lone (Frame.enter Try.checked.prog f i.args .normal) [] (w.forCall tape i))) :
    ReturnsInHanded {} Try.checked os f .any (s.pre6 enc Try.checked.prog fn conds false) (s.post enc Try.checked.prog fn false true false false) := by
  refine returnsInHanded_of_change (C := Try.checked) ownNone started hfn hf wit ?_
  intro W base args ds gs before hval hW _ _
  have hW' := hW
  obtain ⟨p, q, hA0, hV, _, _, _⟩ := hW
  rw [hpl] at hA0
  have hA : DataW.TrodAll enc Try.prog W 0 (fun _ => true) true [55, 29] args.toList ds p := hA0
  obtain ⟨v0, vs0, d0, ds0, p0, q0, e0, rfl, _, h0, hA⟩ := trodAll_cons hA
  obtain ⟨v1, vs1, d1, ds1, p1, q1, rfl, rfl, _, h1, hA⟩ := trodAll_cons hA
  obtain ⟨rfl, rfl, _⟩ := trodAll_nil hA
  obtain rfl : args = #[v0, v1] := by apply Array.ext'; simpa using e0
  obtain ⟨x0, rfl, hat0⟩ := open_Prog (hval 0 55 v0 (by rw [hpl]; rfl) rfl) h0
  obtain ⟨x1, rfl, hat1⟩ := open_State (hval 1 29 v1 (by rw [hpl]; rfl) rfl) h1
  refine (hc x0 x1 W ⟨hat0, hat1, trivial⟩).mono fun e W' hR => ?_
  obtain ⟨v, L, rfl, he, _, rfl, _⟩ := hR
  rw [hvars] at hV
  obtain ⟨rfl, _⟩ := trodVars_none hV
  exact ⟨_, rfl, law_post (P := Try.prog) laidOut (pl := [55, 29]) (by rw [hpl]) (by kernel_rfl) hvars hres undBool (hspec H d0 d1) hW' he.below⟩

set_option maxRecDepth 100000 in
theorem lifted_PSi {f : FuncId} {fn : Func} {s : ChangeSpec} {conds : List PathCond} (hf : Try.checked.prog.funcs[f]? = some fn) (hfn : Try.checked.prog.inits.idxOf? f = none) (hpl : fn.params = #[55, 29, 3]) (hres : fn.resultTypes = #[4]) (hvars : s.vars = [])
    (hspec : ∀ (H : Type) (d0 d1 d2 : DataW H), s.fn H [d0, d1, d2] = { results := [.lit (.bool true)], args := [d0, d1, d2] })
    (hc : ∀ (x0 : ProgH) (x1 : StateH) (x2 : Int) (w : World), At w [fR (progO x0), fR (stateO x1)] → Calls Try.prog f #[progV x0, stateV x1, .int .i64 x2] w (Ret w fun v L => v = .bool true ∧ L = []))
    (os : Os) (started : os.Started) (H : Type) (enc : TypeId × Value → H)
    (wit : ∃ (w : World) (tape : Tape) (i : Input), w.os = os ∧ (w.forCall tape i).Shaped Try.checked.prog ∧ i.vars = [] ∧ Input.okWide Try.checked.prog (w.forCall tape i) .any w.heap.size f i ∧
      s.pre6 enc Try.checked.prog fn conds false (w.forCall tape i).memory i.args ∧ ({} : Assume).holds Try.checked.prog (lone (Frame.enter Try.checked.prog f i.args .normal) [] (w.forCall tape i))) :
    ReturnsInHanded {} Try.checked os f .any (s.pre6 enc Try.checked.prog fn conds false) (s.post enc Try.checked.prog fn false true false false) := by
  refine returnsInHanded_of_change (C := Try.checked) ownNone started hfn hf wit ?_
  intro W base args ds gs before hval hW _ _
  have hW' := hW
  obtain ⟨p, q, hA0, hV, _, _, _⟩ := hW
  rw [hpl] at hA0
  have hA : DataW.TrodAll enc Try.prog W 0 (fun _ => true) true [55, 29, 3] args.toList ds p := hA0
  obtain ⟨v0, vs0, d0, ds0, p0, q0, e0, rfl, _, h0, hA⟩ := trodAll_cons hA
  obtain ⟨v1, vs1, d1, ds1, p1, q1, rfl, rfl, _, h1, hA⟩ := trodAll_cons hA
  obtain ⟨v2, vs2, d2, ds2, p2, q2, rfl, rfl, _, h2, hA⟩ := trodAll_cons hA
  obtain ⟨rfl, rfl, _⟩ := trodAll_nil hA
  obtain rfl : args = #[v0, v1, v2] := by apply Array.ext'; simpa using e0
  obtain ⟨x0, rfl, hat0⟩ := open_Prog (hval 0 55 v0 (by rw [hpl]; rfl) rfl) h0
  obtain ⟨x1, rfl, hat1⟩ := open_State (hval 1 29 v1 (by rw [hpl]; rfl) rfl) h1
  obtain ⟨x2, rfl, _⟩ := open_int undI (hval 2 3 v2 (by rw [hpl]; rfl) rfl) h2
  refine (hc x0 x1 x2 W ⟨hat0, hat1, trivial⟩).mono fun e W' hR => ?_
  obtain ⟨v, L, rfl, he, _, rfl, _⟩ := hR
  rw [hvars] at hV
  obtain ⟨rfl, _⟩ := trodVars_none hV
  exact ⟨_, rfl, law_post (P := Try.prog) laidOut (pl := [55, 29, 3]) (by rw [hpl]) (by kernel_rfl) hvars hres undBool (hspec H d0 d1 d2) hW' he.below⟩

set_option maxRecDepth 100000 in
theorem lifted_PI {f : FuncId} {fn : Func} {s : ChangeSpec} {conds : List PathCond} (hf : Try.checked.prog.funcs[f]? = some fn) (hfn : Try.checked.prog.inits.idxOf? f = none) (hpl : fn.params = #[55, 22]) (hres : fn.resultTypes = #[4]) (hvars : s.vars = [])
    (hspec : ∀ (H : Type) (d0 d1 : DataW H), s.fn H [d0, d1] = { results := [.lit (.bool true)], args := [d0, d1] })
    (hc : ∀ (x0 : ProgH) (i1 : Sl) (x1 : List Int) (w : World), At w [fR (progO x0), slo i1 cInt 1 x1] → Calls Try.prog f #[progV x0, i1.val x1.length] w (Ret w fun v L => v = .bool true ∧ L = []))
    (os : Os) (started : os.Started) (H : Type) (enc : TypeId × Value → H)
    (wit : ∃ (w : World) (tape : Tape) (i : Input), w.os = os ∧ (w.forCall tape i).Shaped Try.checked.prog ∧ i.vars = [] ∧ Input.okWide Try.checked.prog (w.forCall tape i) .any w.heap.size f i ∧
      s.pre6 enc Try.checked.prog fn conds false (w.forCall tape i).memory i.args ∧ ({} : Assume).holds Try.checked.prog (lone (Frame.enter Try.checked.prog f i.args .normal) [] (w.forCall tape i))) :
    ReturnsInHanded {} Try.checked os f .any (s.pre6 enc Try.checked.prog fn conds false) (s.post enc Try.checked.prog fn false true false false) := by
  refine returnsInHanded_of_change (C := Try.checked) ownNone started hfn hf wit ?_
  intro W base args ds gs before hval hW _ _
  have hW' := hW
  obtain ⟨p, q, hA0, hV, _, _, _⟩ := hW
  rw [hpl] at hA0
  have hA : DataW.TrodAll enc Try.prog W 0 (fun _ => true) true [55, 22] args.toList ds p := hA0
  obtain ⟨v0, vs0, d0, ds0, p0, q0, e0, rfl, _, h0, hA⟩ := trodAll_cons hA
  obtain ⟨v1, vs1, d1, ds1, p1, q1, rfl, rfl, _, h1, hA⟩ := trodAll_cons hA
  obtain ⟨rfl, rfl, _⟩ := trodAll_nil hA
  obtain rfl : args = #[v0, v1] := by apply Array.ext'; simpa using e0
  obtain ⟨x0, rfl, hat0⟩ := open_Prog (hval 0 55 v0 (by rw [hpl]; rfl) rfl) h0
  obtain ⟨fuel1, hf1⟩ := h1
  obtain ⟨i1, x1, e1', r1, f1⟩ := open_sl encInt Nat.zero_lt_one undIs (by kernel_rfl) el_int hf1
  obtain rfl := val_slice undIs (hval 1 22 v1 (by rw [hpl]; rfl) rfl) e1'
  refine (hc x0 i1 x1 W ⟨hat0, ⟨r1, f1⟩, trivial⟩).mono fun e W' hR => ?_
  obtain ⟨v, L, rfl, he, _, rfl, _⟩ := hR
  rw [hvars] at hV
  obtain ⟨rfl, _⟩ := trodVars_none hV
  exact ⟨_, rfl, law_post (P := Try.prog) laidOut (pl := [55, 22]) (by rw [hpl]) (by kernel_rfl) hvars hres undBool (hspec H d0 d1) hW' he.below⟩

end Go.Proofs.Ytpopeaoklccgcaa
