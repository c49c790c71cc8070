/- FnExactFormatState: texts that its proof stands on, part 8. -/
import Derived.Test.YtchkcjeeknfchaaGreatDoorQExactFormatStateg
namespace Go.Sx

open Go Go.RowKit Go.ChangeShapes Go.WideShapes

/-- What all of G read stands at W. -/
def AllR (W : World) (G : List Fct) : Prop := ∀ f ∈ G, f.aged.P W ∧ ∀ b, f.aged.foot b → b < W.heap.size

theorem AllR.nil (W : World) : AllR W [] := fun _ h => by cases h

theorem AllR.cons {W : World} {f : Fct} {G : List Fct} (h : f.aged.P W ∧ ∀ b, f.aged.foot b → b < W.heap.size) (k : AllR W G) : AllR W (f :: G) := fun g hg => by
  rcases List.mem_cons.1 hg with rfl | hg
  · exact h
  · exact k g hg

theorem AllR.append {W : World} {G H : List Fct} (h : AllR W G) (k : AllR W H) : AllR W (G ++ H) := fun g hg => by
  rcases List.mem_append.1 hg with hg | hg
  · exact h g hg
  · exact k g hg

theorem AllR.flat {W : World} {α : Type} {xs : List α} {inner : α → List Fct} (h : ∀ x ∈ xs, AllR W (inner x)) : AllR W (xs.flatMap inner) := fun g hg => by
  obtain ⟨x, hx, hg⟩ := List.mem_flatMap.1 hg
  exact h x hx g hg

theorem AllR.at {W : World} {G : List Fct} (h : AllR W G) : (fR G).P W ∧ ∀ b, (fR G).foot b → b < W.heap.size := by
  refine ⟨fun g hg => ?_, ?_⟩
  · obtain ⟨f, hf, rfl⟩ := List.mem_map.1 hg
    exact (h f hf).1
  · rintro b ⟨g, hg, hb⟩
    obtain ⟨f, hf, rfl⟩ := List.mem_map.1 hg
    exact (h f hf).2 b hb

section

variable {H : Type} {enc : TypeId × Value → H} {P : Program} {W : World}

/-- A slice opened: its elements read one by one, each with what it holds. -/
theorem open_slQ {α : Type} {el : α → List Value} {sz : Nat} {Q : α → Prop} (he : Enc el sz) (h0 : 0 < sz) {t e : TypeId} {fuel : Nat} {cs : List Value} {x : DataW H × List MemPlace} (ht : P.underlying t = some (.slice e)) (hc : P.cellsOf e = sz)
    (hel : ∀ n cs y, DataW.trod enc P W 0 (fun _ => true) true n e cs = some y → ∃ a : α, cs = el a ∧ Q a)
    (h : DataW.trod enc P W 0 (fun _ => true) true fuel t cs = some x) :
    ∃ (i : Sl) (xs : List α), cs = [i.val xs.length] ∧ RdS W i sz (cells el xs) xs.length ∧ (∀ b, (fSl true i sz (cells el xs) xs.length).foot b → b < W.heap.size) ∧ ∀ x ∈ xs, Q x := by
  rcases Deep.open_slice ht h with ⟨rfl, rfl⟩ | ⟨a, len, cap, m, n, D, Pl, rfl, hb, hl, hm, hmm, rfl, hx⟩
  · exact ⟨⟨none, 0⟩, [], rfl, ⟨by simp [cells], by simp, by simp [maxLen], fun h => by simp at h⟩, fun b hb => by have := hb.1; simp at this, by simp⟩
  · rw [hc] at hx
    have hlm : len ≤ m := by rw [hmm]; simp; omega
    have hone : ∀ i, i < len → ∃ y : α, (∀ r u, (el y)[r]? = some u → W.cell? (a.add (i * sz + r)) = some u) ∧ Q y := fun i hi => by
      obtain ⟨cs', h1, h2⟩ := hx i (by omega)
      obtain ⟨y, rfl, hq⟩ := hel _ _ _ h2
      obtain ⟨_, g1, g2⟩ := World.cells?_some h1
      refine ⟨y, fun r u hu => ?_, hq⟩
      have hr : r < sz := by rw [← g1]; exact (List.getElem?_eq_some_iff.1 hu).1
      have := g2 r hr
      rw [addr_add_add, hu] at this
      exact this
    rcases Nat.eq_zero_or_pos len with hz | hz
    · subst hz
      exact ⟨⟨some a, cap⟩, [], rfl, ⟨by simp [cells], by simp, hm, fun h => by simp at h⟩, fun b hb => by have := hb.1; simp at this, by simp⟩
    · have : Inhabited α := ⟨(hone 0 hz).choose⟩
      obtain ⟨X, hX⟩ := Deep.choose_lt hone
      have hlen : ((List.range len).map X).length = len := by simp
      refine ⟨⟨some a, cap⟩, (List.range len).map X, by rw [hlen]; rfl, ⟨by rw [cells_length he], by rw [hlen]; exact hl, hm, fun _ => ⟨a, rfl, fun j u hu => ?_⟩⟩, ?_, ?_⟩
      · obtain ⟨k, r, hk, rfl, hu'⟩ := cells_inv he h0 hu
        have hk' : k < len := by simpa using hk
        exact (hX k hk').1 r u (by simpa using hu')
      · rintro b ⟨_, ad, had, rfl⟩
        injection had with had
        subst had
        have hr : 0 < (el (X 0)).length := by rw [he.len]; exact h0
        have hc0 := (hX 0 hz).1 0 _ (List.getElem?_eq_getElem hr)
        unfold World.cell? at hc0
        rw [block_add] at hc0
        cases hh : W.heap[a.block]? with
        | none => rw [hh] at hc0; simp at hc0
        | some o => exact (Array.getElem?_eq_some_iff.1 hh).1
      · intro x hx
        obtain ⟨k, hk, rfl⟩ := List.mem_map.1 hx
        exact (hX k (by simpa using hk)).2

end

end Go.Sx

namespace Go.Proofs.YtchkcjeeknfchaaGreatDoor

open Go Go.Sx Go.RowKit Go.ChangeShapes Go.WideShapes

theorem undI : Tryz.prog.underlying 3 = some (.int .i64) := by kernel_rfl

theorem undIs : Tryz.prog.underlying 22 = some (.slice 3) := by kernel_rfl

theorem el_int {H : Type} {enc : TypeId × Value → H} {W : World} : ∀ (n : Nat) (cs : List Value) (y : DataW H × List MemPlace), DataW.trod enc Tryz.prog W 0 (fun _ => true) true n 3 cs = some y → ∃ a : Int, cs = cInt a := fun n cs y hy => by
  obtain ⟨k, h1, _, _⟩ := DataW.trod_int undI hy
  exact ⟨k, h1⟩

theorem structWaiter : Tryz.prog.underlying 193 = some (.struct (Tryz.prog.fieldsOf 193)) := by kernel_rfl

theorem fieldsWaiter : (Tryz.prog.fieldsOf 193).toList.map (fun f => (f.type, f.offset, Tryz.prog.cellsOf f.type)) = [(3, 0, 1), (3, 1, 1)] := by kernel_rfl

theorem undWaiterS : Tryz.prog.underlying 117 = some (.slice 193) := by kernel_rfl

set_option maxRecDepth 100000 in
theorem el_Waiter {H : Type} {enc : TypeId × Value → H} {W : World} : ∀ (n : Nat) (cs : List Value) (y : DataW H × List MemPlace), DataW.trod enc Tryz.prog W 0 (fun _ => true) true n 193 cs = some y → ∃ a : Waiter, cs = cWaiter a := fun n cs y hy => by
  obtain ⟨hl, k, hx⟩ := trod_fields structWaiter fieldsWaiter (sz := 2) (by kernel_rfl) hy
  match cs, hl with
  | [a0, a1], _ =>
    obtain ⟨_, h0⟩ := hx 0 _ _ _ rfl
    obtain ⟨p0, e0⟩ := el_int _ _ _ h0
    obtain ⟨_, h1⟩ := hx 1 _ _ _ rfl
    obtain ⟨p1, e1⟩ := el_int _ _ _ h1
    simp [cInt] at e0 e1
    exact ⟨⟨p0, p1⟩, by simp [cWaiter, e0, e1]⟩

theorem structLetter : Tryz.prog.underlying 195 = some (.struct (Tryz.prog.fieldsOf 195)) := by kernel_rfl

theorem fieldsLetter : (Tryz.prog.fieldsOf 195).toList.map (fun f => (f.type, f.offset, Tryz.prog.cellsOf f.type)) = [(3, 0, 1), (3, 1, 1)] := by kernel_rfl

theorem undLetterS : Tryz.prog.underlying 127 = some (.slice 195) := by kernel_rfl

set_option maxRecDepth 100000 in
theorem el_Letter {H : Type} {enc : TypeId × Value → H} {W : World} : ∀ (n : Nat) (cs : List Value) (y : DataW H × List MemPlace), DataW.trod enc Tryz.prog W 0 (fun _ => true) true n 195 cs = some y → ∃ a : Letter, cs = cLet a := fun n cs y hy => by
  obtain ⟨hl, k, hx⟩ := trod_fields structLetter fieldsLetter (sz := 2) (by kernel_rfl) hy
  match cs, hl with
  | [a0, a1], _ =>
    obtain ⟨_, h0⟩ := hx 0 _ _ _ rfl
    obtain ⟨p0, e0⟩ := el_int _ _ _ h0
    obtain ⟨_, h1⟩ := hx 1 _ _ _ rfl
    obtain ⟨p1, e1⟩ := el_int _ _ _ h1
    simp [cInt] at e0 e1
    exact ⟨⟨p0, p1⟩, by simp [cLet, e0, e1]⟩

theorem structOp : Tryz.prog.underlying 174 = some (.struct (Tryz.prog.fieldsOf 174)) := by kernel_rfl

theorem fieldsOp : (Tryz.prog.fieldsOf 174).toList.map (fun f => (f.type, f.offset, Tryz.prog.cellsOf f.type)) = [(3, 0, 1), (3, 1, 1), (3, 2, 1)] := by kernel_rfl

theorem undOpS : Tryz.prog.underlying 115 = some (.slice 174) := by kernel_rfl

set_option maxRecDepth 100000 in
theorem el_Op {H : Type} {enc : TypeId × Value → H} {W : World} : ∀ (n : Nat) (cs : List Value) (y : DataW H × List MemPlace), DataW.trod enc Tryz.prog W 0 (fun _ => true) true n 174 cs = some y → ∃ a : Op, cs = cOp a := fun n cs y hy => by
  obtain ⟨hl, k, hx⟩ := trod_fields structOp fieldsOp (sz := 3) (by kernel_rfl) hy
  match cs, hl with
  | [a0, a1, a2], _ =>
    obtain ⟨_, h0⟩ := hx 0 _ _ _ rfl
    obtain ⟨p0, e0⟩ := el_int _ _ _ h0
    obtain ⟨_, h1⟩ := hx 1 _ _ _ rfl
    obtain ⟨p1, e1⟩ := el_int _ _ _ h1
    obtain ⟨_, h2⟩ := hx 2 _ _ _ rfl
    obtain ⟨p2, e2⟩ := el_int _ _ _ h2
    simp [cInt] at e0 e1 e2
    exact ⟨⟨p0, p1, p2⟩, by simp [cOp, e0, e1, e2]⟩

theorem undOpSS : Tryz.prog.underlying 23 = some (.slice 115) := by kernel_rfl

theorem el_OpS {H : Type} {enc : TypeId × Value → H} {W : World} : ∀ (n : Nat) (cs : List Value) (y : DataW H × List MemPlace), DataW.trod enc Tryz.prog W 0 (fun _ => true) true n 115 cs = some y → ∃ a : OpSH, cs = cOpSH a ∧ AllR W (opSO a) := fun n cs y hy => by
  obtain ⟨i, xs, e, r, f⟩ := open_sl encOp (by decide) undOpS (by kernel_rfl) el_Op hy
  exact ⟨⟨xs, i⟩, e, AllR.cons ⟨r, f⟩ (AllR.nil W)⟩

theorem structSem : Tryz.prog.underlying 119 = some (.struct (Tryz.prog.fieldsOf 119)) := by kernel_rfl

theorem fieldsSem : (Tryz.prog.fieldsOf 119).toList.map (fun f => (f.type, f.offset, Tryz.prog.cellsOf f.type)) = [(3, 0, 1), (3, 1, 1), (117, 2, 1)] := by kernel_rfl

theorem undSemS : Tryz.prog.underlying 26 = some (.slice 119) := by kernel_rfl

set_option maxRecDepth 100000 in
theorem el_Sem {H : Type} {enc : TypeId × Value → H} {W : World} : ∀ (n : Nat) (cs : List Value) (y : DataW H × List MemPlace), DataW.trod enc Tryz.prog W 0 (fun _ => true) true n 119 cs = some y → ∃ a : SemH, cs = cSemH a ∧ AllR W (semO a) := fun n cs y hy => by
  obtain ⟨hl, k, hx⟩ := trod_fields structSem fieldsSem (sz := 3) (by kernel_rfl) hy
  match cs, hl with
  | [a0, a1, a2], _ =>
    obtain ⟨_, h0⟩ := hx 0 _ _ _ rfl
    obtain ⟨p0, e0⟩ := el_int _ _ _ h0
    obtain ⟨_, h1⟩ := hx 1 _ _ _ rfl
    obtain ⟨p1, e1⟩ := el_int _ _ _ h1
    obtain ⟨_, h2⟩ := hx 2 _ _ _ rfl
    obtain ⟨i2, p2, e2, r2, f2⟩ := open_sl encWaiter (by decide) undWaiterS (by kernel_rfl) el_Waiter h2
    simp [cInt] at e0 e1 e2
    exact ⟨⟨⟨p0, p1, p2⟩, i2⟩, by simp [cSemH, e0, e1, e2], AllR.cons ⟨r2, f2⟩ (AllR.nil W)⟩

theorem structOnce : Tryz.prog.underlying 121 = some (.struct (Tryz.prog.fieldsOf 121)) := by kernel_rfl

theorem fieldsOnce : (Tryz.prog.fieldsOf 121).toList.map (fun f => (f.type, f.offset, Tryz.prog.cellsOf f.type)) = [(3, 0, 1), (3, 1, 1), (3, 2, 1), (22, 3, 1)] := by kernel_rfl

theorem undOnceS : Tryz.prog.underlying 27 = some (.slice 121) := by kernel_rfl

set_option maxRecDepth 100000 in
theorem el_Once {H : Type} {enc : TypeId × Value → H} {W : World} : ∀ (n : Nat) (cs : List Value) (y : DataW H × List MemPlace), DataW.trod enc Tryz.prog W 0 (fun _ => true) true n 121 cs = some y → ∃ a : OnceH, cs = cOnceH a ∧ AllR W (onceO a) := fun n cs y hy => by
  obtain ⟨hl, k, hx⟩ := trod_fields structOnce fieldsOnce (sz := 4) (by kernel_rfl) hy
  match cs, hl with
  | [a0, a1, a2, a3], _ =>
    obtain ⟨_, h0⟩ := hx 0 _ _ _ rfl
    obtain ⟨p0, e0⟩ := el_int _ _ _ h0
    obtain ⟨_, h1⟩ := hx 1 _ _ _ rfl
    obtain ⟨p1, e1⟩ := el_int _ _ _ h1
    obtain ⟨_, h2⟩ := hx 2 _ _ _ rfl
    obtain ⟨p2, e2⟩ := el_int _ _ _ h2
    obtain ⟨_, h3⟩ := hx 3 _ _ _ rfl
    obtain ⟨i3, p3, e3, r3, f3⟩ := open_sl encInt Nat.zero_lt_one undIs (by kernel_rfl) el_int h3
    simp [cInt] at e0 e1 e2 e3
    exact ⟨⟨⟨p0, p1, p2, p3⟩, i3⟩, by simp [cOnceH, e0, e1, e2, e3], AllR.cons ⟨r3, f3⟩ (AllR.nil W)⟩

theorem structGroup : Tryz.prog.underlying 123 = some (.struct (Tryz.prog.fieldsOf 123)) := by kernel_rfl

theorem fieldsGroup : (Tryz.prog.fieldsOf 123).toList.map (fun f => (f.type, f.offset, Tryz.prog.cellsOf f.type)) = [(3, 0, 1), (22, 1, 1)] := by kernel_rfl

theorem undGroupS : Tryz.prog.underlying 28 = some (.slice 123) := by kernel_rfl

set_option maxRecDepth 100000 in
theorem el_Group {H : Type} {enc : TypeId × Value → H} {W : World} : ∀ (n : Nat) (cs : List Value) (y : DataW H × List MemPlace), DataW.trod enc Tryz.prog W 0 (fun _ => true) true n 123 cs = some y → ∃ a : GroupH, cs = cGroupH a ∧ AllR W (groupO a) := fun n cs y hy => by
  obtain ⟨hl, k, hx⟩ := trod_fields structGroup fieldsGroup (sz := 2) (by kernel_rfl) hy
  match cs, hl with
  | [a0, a1], _ =>
    obtain ⟨_, h0⟩ := hx 0 _ _ _ rfl
    obtain ⟨p0, e0⟩ := el_int _ _ _ h0
    obtain ⟨_, h1⟩ := hx 1 _ _ _ rfl
    obtain ⟨i1, p1, e1, r1, f1⟩ := open_sl encInt Nat.zero_lt_one undIs (by kernel_rfl) el_int h1
    simp [cInt] at e0 e1
    exact ⟨⟨⟨p0, p1⟩, i1⟩, by simp [cGroupH, e0, e1], AllR.cons ⟨r1, f1⟩ (AllR.nil W)⟩

theorem structBarrier : Tryz.prog.underlying 125 = some (.struct (Tryz.prog.fieldsOf 125)) := by kernel_rfl

theorem fieldsBarrier : (Tryz.prog.fieldsOf 125).toList.map (fun f => (f.type, f.offset, Tryz.prog.cellsOf f.type)) = [(3, 0, 1), (3, 1, 1), (22, 2, 1)] := by kernel_rfl

theorem undBarrierS : Tryz.prog.underlying 29 = some (.slice 125) := by kernel_rfl

set_option maxRecDepth 100000 in
theorem el_Barrier {H : Type} {enc : TypeId × Value → H} {W : World} : ∀ (n : Nat) (cs : List Value) (y : DataW H × List MemPlace), DataW.trod enc Tryz.prog W 0 (fun _ => true) true n 125 cs = some y → ∃ a : BarrierH, cs = cBarrierH a ∧ AllR W (barrierO a) := fun n cs y hy => by
  obtain ⟨hl, k, hx⟩ := trod_fields structBarrier fieldsBarrier (sz := 3) (by kernel_rfl) hy
  match cs, hl with
  | [a0, a1, a2], _ =>
    obtain ⟨_, h0⟩ := hx 0 _ _ _ rfl
    obtain ⟨p0, e0⟩ := el_int _ _ _ h0
    obtain ⟨_, h1⟩ := hx 1 _ _ _ rfl
    obtain ⟨p1, e1⟩ := el_int _ _ _ h1
    obtain ⟨_, h2⟩ := hx 2 _ _ _ rfl
    obtain ⟨i2, p2, e2, r2, f2⟩ := open_sl encInt Nat.zero_lt_one undIs (by kernel_rfl) el_int h2
    simp [cInt] at e0 e1 e2
    exact ⟨⟨⟨p0, p1, p2⟩, i2⟩, by simp [cBarrierH, e0, e1, e2], AllR.cons ⟨r2, f2⟩ (AllR.nil W)⟩

theorem structChan : Tryz.prog.underlying 129 = some (.struct (Tryz.prog.fieldsOf 129)) := by kernel_rfl

theorem fieldsChan : (Tryz.prog.fieldsOf 129).toList.map (fun f => (f.type, f.offset, Tryz.prog.cellsOf f.type)) = [(3, 0, 1), (22, 1, 1), (127, 2, 1), (22, 3, 1), (4, 4, 1)] := by kernel_rfl

theorem undChanS : Tryz.prog.underlying 30 = some (.slice 129) := by kernel_rfl

set_option maxRecDepth 100000 in
theorem el_Chan {H : Type} {enc : TypeId × Value → H} {W : World} : ∀ (n : Nat) (cs : List Value) (y : DataW H × List MemPlace), DataW.trod enc Tryz.prog W 0 (fun _ => true) true n 129 cs = some y → ∃ a : ChanH, cs = cChanH a ∧ AllR W (chanO a) := fun n cs y hy => by
  obtain ⟨hl, k, hx⟩ := trod_fields structChan fieldsChan (sz := 5) (by kernel_rfl) hy
  match cs, hl with
  | [a0, a1, a2, a3, a4], _ =>
    obtain ⟨_, h0⟩ := hx 0 _ _ _ rfl
    obtain ⟨p0, e0⟩ := el_int _ _ _ h0
    obtain ⟨_, h1⟩ := hx 1 _ _ _ rfl
    obtain ⟨i1, p1, e1, r1, f1⟩ := open_sl encInt Nat.zero_lt_one undIs (by kernel_rfl) el_int h1
    obtain ⟨_, h2⟩ := hx 2 _ _ _ rfl
    obtain ⟨i2, p2, e2, r2, f2⟩ := open_sl encLet (by decide) undLetterS (by kernel_rfl) el_Letter h2
    obtain ⟨_, h3⟩ := hx 3 _ _ _ rfl
    obtain ⟨i3, p3, e3, r3, f3⟩ := open_sl encInt Nat.zero_lt_one undIs (by kernel_rfl) el_int h3
    obtain ⟨_, h4⟩ := hx 4 _ _ _ rfl
    obtain ⟨p4, e4, _⟩ := DataW.trod_bool undBool h4
    simp [cInt] at e0 e1 e2 e3 e4
    exact ⟨⟨⟨p0, p1, p2, p3, p4⟩, i1, i2, i3⟩, by simp [cChanH, e0, e1, e2, e3, e4], AllR.cons ⟨r1, f1⟩ (AllR.cons ⟨r2, f2⟩ (AllR.cons ⟨r3, f3⟩ (AllR.nil W)))⟩

theorem structProg : Tryz.prog.underlying 25 = some (.struct (Tryz.prog.fieldsOf 25)) := by kernel_rfl

theorem fieldsProg : (Tryz.prog.fieldsOf 25).toList.map (fun f => (f.type, f.offset, Tryz.prog.cellsOf f.type)) = [(22, 0, 1), (22, 1, 1), (22, 2, 1), (22, 3, 1), (23, 4, 1)] := by kernel_rfl

set_option maxRecDepth 100000 in
theorem open_Prog {H : Type} {enc : TypeId × Value → H} {W : World} {base : Nat} {v : Value} {d : DataW H} {p : List MemPlace} (hv : Value.okWide Tryz.prog W .any base 25 v) (h : DataW.Trod enc Tryz.prog W 0 (fun _ => true) true 25 v d p) :
    ∃ s : ProgH, v = progV s ∧ (fR (progO s)).P W ∧ ∀ b, (fR (progO s)).foot b → b < W.heap.size := by
  obtain ⟨vs, rfl, _⟩ := okWide_struct structProg hv
  obtain ⟨fuel, hf⟩ := h
  obtain ⟨hl, k, hx⟩ := trod_fields structProg fieldsProg (sz := 5) (by kernel_rfl) hf
  obtain ⟨cs⟩ := vs
  have hl : cs.length = 5 := hl
  match cs, hl with
  | [a0, a1, a2, a3, a4], _ =>
    obtain ⟨_, h0⟩ := hx 0 _ _ _ rfl
    obtain ⟨i0, p0, e0, r0, f0⟩ := open_sl encInt Nat.zero_lt_one undIs (by kernel_rfl) el_int h0
    obtain ⟨_, h1⟩ := hx 1 _ _ _ rfl
    obtain ⟨i1, p1, e1, r1, f1⟩ := open_sl encInt Nat.zero_lt_one undIs (by kernel_rfl) el_int h1
    obtain ⟨_, h2⟩ := hx 2 _ _ _ rfl
    obtain ⟨i2, p2, e2, r2, f2⟩ := open_sl encInt Nat.zero_lt_one undIs (by kernel_rfl) el_int h2
    obtain ⟨_, h3⟩ := hx 3 _ _ _ rfl
    obtain ⟨i3, p3, e3, r3, f3⟩ := open_sl encInt Nat.zero_lt_one undIs (by kernel_rfl) el_int h3
    obtain ⟨_, h4⟩ := hx 4 _ _ _ rfl
    obtain ⟨i4, p4, e4, r4, f4, q4⟩ := open_slQ encOpSH (by decide) undOpSS (by kernel_rfl) el_OpS h4
    simp [Value.cells] at e0 e1 e2 e3 e4
    refine ⟨⟨p0, p1, p2, p3, p4, i0, i1, i2, i3, i4⟩, ?_, AllR.at ?_⟩
    · simp [progV, e0, e1, e2, e3, e4]
    · exact AllR.cons ⟨r0, f0⟩ (AllR.cons ⟨r1, f1⟩ (AllR.cons ⟨r2, f2⟩ (AllR.cons ⟨r3, f3⟩ ((AllR.cons ⟨r4, f4⟩ (AllR.flat q4))))))

theorem structState : Tryz.prog.underlying 32 = some (.struct (Tryz.prog.fieldsOf 32)) := by kernel_rfl

theorem fieldsState : (Tryz.prog.fieldsOf 32).toList.map (fun f => (f.type, f.offset, Tryz.prog.cellsOf f.type)) = [(22, 0, 1), (22, 1, 1), (26, 2, 1), (27, 3, 1), (28, 4, 1), (29, 5, 1), (30, 6, 1), (22, 7, 1), (3, 8, 1)] := by kernel_rfl

set_option maxRecDepth 100000 in
theorem open_State {H : Type} {enc : TypeId × Value → H} {W : World} {base : Nat} {v : Value} {d : DataW H} {p : List MemPlace} (hv : Value.okWide Tryz.prog W .any base 32 v) (h : DataW.Trod enc Tryz.prog W 0 (fun _ => true) true 32 v d p) :
    ∃ s : StateH, v = stateV s ∧ (fR (stateO s)).P W ∧ ∀ b, (fR (stateO s)).foot b → b < W.heap.size := by
  obtain ⟨vs, rfl, _⟩ := okWide_struct structState hv
  obtain ⟨fuel, hf⟩ := h
  obtain ⟨hl, k, hx⟩ := trod_fields structState fieldsState (sz := 9) (by kernel_rfl) hf
  obtain ⟨cs⟩ := vs
  have hl : cs.length = 9 := hl
  match cs, hl with
  | [a0, a1, a2, a3, a4, a5, a6, a7, a8], _ =>
    obtain ⟨_, h0⟩ := hx 0 _ _ _ rfl
    obtain ⟨i0, p0, e0, r0, f0⟩ := open_sl encInt Nat.zero_lt_one undIs (by kernel_rfl) el_int h0
    obtain ⟨_, h1⟩ := hx 1 _ _ _ rfl
    obtain ⟨i1, p1, e1, r1, f1⟩ := open_sl encInt Nat.zero_lt_one undIs (by kernel_rfl) el_int h1
    obtain ⟨_, h2⟩ := hx 2 _ _ _ rfl
    obtain ⟨i2, p2, e2, r2, f2, q2⟩ := open_slQ encSemH (by decide) undSemS (by kernel_rfl) el_Sem h2
    obtain ⟨_, h3⟩ := hx 3 _ _ _ rfl
    obtain ⟨i3, p3, e3, r3, f3, q3⟩ := open_slQ encOnceH (by decide) undOnceS (by kernel_rfl) el_Once h3
    obtain ⟨_, h4⟩ := hx 4 _ _ _ rfl
    obtain ⟨i4, p4, e4, r4, f4, q4⟩ := open_slQ encGroupH (by decide) undGroupS (by kernel_rfl) el_Group h4
    obtain ⟨_, h5⟩ := hx 5 _ _ _ rfl
    obtain ⟨i5, p5, e5, r5, f5, q5⟩ := open_slQ encBarrierH (by decide) undBarrierS (by kernel_rfl) el_Barrier h5
    obtain ⟨_, h6⟩ := hx 6 _ _ _ rfl
    obtain ⟨i6, p6, e6, r6, f6, q6⟩ := open_slQ encChanH (by decide) undChanS (by kernel_rfl) el_Chan h6
    obtain ⟨_, h7⟩ := hx 7 _ _ _ rfl
    obtain ⟨i7, p7, e7, r7, f7⟩ := open_sl encInt Nat.zero_lt_one undIs (by kernel_rfl) el_int h7
    obtain ⟨_, h8⟩ := hx 8 _ _ _ rfl
    obtain ⟨p8, e8⟩ := el_int _ _ _ h8
    simp [cInt, Value.cells] at e0 e1 e2 e3 e4 e5 e6 e7 e8
    refine ⟨⟨p0, p1, p2, p3, p4, p5, p6, p7, p8, i0, i1, i2, i3, i4, i5, i6, i7⟩, ?_, AllR.at ?_⟩
    · simp [stateV, e0, e1, e2, e3, e4, e5, e6, e7, e8]
    · exact AllR.cons ⟨r0, f0⟩ (AllR.cons ⟨r1, f1⟩ ((AllR.append (AllR.cons ⟨r2, f2⟩ (AllR.flat q2)) (AllR.append (AllR.cons ⟨r3, f3⟩ (AllR.flat q3)) (AllR.append (AllR.cons ⟨r4, f4⟩ (AllR.flat q4)) (AllR.append (AllR.cons ⟨r5, f5⟩ (AllR.flat q5)) (AllR.append (AllR.cons ⟨r6, f6⟩ (AllR.flat q6)) (AllR.cons ⟨r7, f7⟩ (AllR.nil W)))))))))

end Go.Proofs.YtchkcjeeknfchaaGreatDoor

namespace Go.Proofs.YtchkcjeeknfchaaGreatDoor

open Go Go.Sx Go.RowKit Go.ChangeShapes Go.WideShapes

set_option maxRecDepth 100000 in
theorem lifted_PSX {f : FuncId} {fn : Func} {s : ChangeSpec} {conds : List PathCond} {X : World → Array Value → Prop} (hX : ∀ (w w' : World) (args : Array Value), w.heap = w'.heap → X w args → X w' args) (hf : Tryz.checked.prog.funcs[f]? = some fn) (hfn : Tryz.checked.prog.inits.idxOf? f = none) (hpl : fn.params = #[25, 32]) (hres : fn.resultTypes = #[4]) (hvars : s.vars = [])
    (hspec : ∀ (H : Type) (d0 d1 : DataW H), s.fn H [d0, d1] = { results := [.lit (.bool true)], args := [d0, d1] })
    (hc : ∀ (x0 : ProgH) (x1 : StateH) (w : World), At w [fR (progO x0), fR (stateO x1)] → Calls Tryz.prog f #[progV x0, stateV x1] w (Ret w fun v L => v = .bool true ∧ L = []))
    (os : Os) (started : os.Started) (H : Type) (enc : TypeId × Value → H)
    (wit : ∃ (w : World) (tape : Tape) (i : Input), w.os = os ∧ (w.forCall tape i).Shaped Tryz.checked.prog ∧ i.vars = [] ∧ Input.okWide Tryz.checked.prog (w.forCall tape i) .any w.heap.size f i ∧
      ((s.pre enc Tryz.checked.prog fn conds false (w.forCall tape i).memory i.args ∧ X (w.forCall tape i).memory i.args) ∧ sizedMet enc Tryz.checked.prog fn (OpenSpec.ofChange s) false (w.forCall tape i).memory i.args) ∧ ({} : Assume).holds Tryz.checked.prog (lone (Frame.enter Tryz.checked.prog f i.args .normal) [] (w.forCall tape i))) :
    ReturnsInHanded {} Tryz.checked os f .any (fun w args => (s.pre enc Tryz.checked.prog fn conds false w args ∧ X w args) ∧ sizedMet enc Tryz.checked.prog fn (OpenSpec.ofChange s) false w args) (s.post enc Tryz.checked.prog fn false true false false) := by
  refine returnsInHanded_of_change_and (C := Tryz.checked) (X := X) hX ownNone started hfn hf wit ?_
  intro W base args ds gs before hval hW _ _ _ _
  have hW' := hW
  obtain ⟨p, q, hA0, hV, _, _, _⟩ := hW
  rw [hpl] at hA0
  have hA : DataW.TrodAll enc Tryz.prog W 0 (fun _ => true) true [25, 32] args.toList ds p := hA0
  obtain ⟨v0, vs0, d0, ds0, p0, q0, e0, rfl, _, h0, hA⟩ := trodAll_cons hA
  obtain ⟨v1, vs1, d1, ds1, p1, q1, rfl, rfl, _, h1, hA⟩ := trodAll_cons hA
  obtain ⟨rfl, rfl, _⟩ := trodAll_nil hA
  obtain rfl : args = #[v0, v1] := by apply Array.ext'; simpa using e0
  obtain ⟨x0, rfl, hat0⟩ := open_Prog (hval 0 25 v0 (by rw [hpl]; rfl) rfl) h0
  obtain ⟨x1, rfl, hat1⟩ := open_State (hval 1 32 v1 (by rw [hpl]; rfl) rfl) h1
  refine (hc x0 x1 W ⟨hat0, hat1, trivial⟩).mono fun e W' hR => ?_
  obtain ⟨v, L, rfl, he, _, rfl, _⟩ := hR
  rw [hvars] at hV
  obtain ⟨rfl, _⟩ := trodVars_none hV
  exact ⟨_, rfl, law_post (P := Tryz.prog) laidOut (pl := [25, 32]) (by rw [hpl]) (by kernel_rfl) hvars hres undBool (hspec H d0 d1) hW' he.below⟩

end Go.Proofs.YtchkcjeeknfchaaGreatDoor
