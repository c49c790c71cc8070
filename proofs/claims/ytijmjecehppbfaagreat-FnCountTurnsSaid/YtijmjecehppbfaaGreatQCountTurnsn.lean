/- FnCountTurns: texts that its proof stands on, part 14. -/
import Derived.Test.YtijmjecehppbfaaGreatQCountTurnsm
namespace Go.Proofs.YtijmjecehppbfaaGreat
set_option maxRecDepth 100000
set_option maxHeartbeats 100000000
open Go Go.Sx Go.RowKit
def gJ0 (q : ProgH) : List Fct := [own q.h0 3 aJ 1 q.sems, own q.h1 3 aJ 1 q.groups, own q.h2 3 aJ 1 q.barriers, own q.h3 3 aJ 1 q.rooms] ++ q.threads.flatMap pZ
theorem zW (q : ProgH) : (aV q).Perm ([own q.h4 68 kI 1 q.threads] ++ gJ0 q) :=
 (List.Perm.of_eq (by simp [aV, oI, iB] : aV q = [own q.h0 3 aJ 1 q.sems, own q.h1 3 aJ 1 q.groups, own q.h2 3 aJ 1 q.barriers, own q.h3 3 aJ 1 q.rooms] ++ own q.h4 68 kI 1 q.threads :: q.threads.flatMap pZ)).trans List.perm_middle
theorem lE0 (q : ProgH) (x : OpSH) (z : Sl) : ([own z 68 kI 1 (q.threads ++ [x])] ++ (gJ0 q ++ [own x.q 65 cOp 3 x.m])).Perm (aV { q with threads := q.threads ++ [x], h4 := z }) := by
 refine List.Perm.trans ?_ (zW { q with threads := q.threads ++ [x], h4 := z }).symm
 exact .of_eq (by simp [gJ0, pZ])
theorem mN0 (g : Nat) (bi : Sl) (rb : List UInt8) (p : Nat) (w : World) (hg : Blk w g 140 (nZ bi rb p)) (h : AtP w g [slo bi gS 1 rb]) (hb : rb.length ≤ 2000) (hp : p < 100000) :
   Calls Tryz.prog 40 #[.pointer (some ⟨g, 0, none⟩)] w (wY w g 140 2 fun v cs L => ∃ (q : ProgH) (p2 : Nat), v = dJ q ∧ ProgOk q.pure ∧ cs = nZ bi rb p2 ∧ p2 ≤ p + 100 ∧ L = [fO (aV q)]) := by
 refine aQ0 Tryz.func40 rfl aA w _ rfl _ rfl _ 140 _ 2 rfl hg _ h ⟨rfl, rfl, trivial⟩ (by decide) ?_
 refine bN _ sX rfl rfl rfl rfl ⟨rfl, rfl⟩ rfl rfl (fun A w ga hga hW hblk => (kG ga bi rb _ _ w hblk ⟨z38, trivial⟩ hb (by omega))) ?_
 rintro v cs L ⟨k0, rfl, _, _, rfl, rfl⟩
 refine CaseB.mk (fun g0 => ?_) (fun g0 => ?_)
 · refine aB _ cl101 rfl rfl rfl rfl ⟨rfl, rfl⟩ (fun A w hW => (iC0 w)) ?_
   rintro v L ⟨y, rfl, rfl⟩
   refine bN _ cl100 rfl rfl rfl rfl ⟨rfl, rfl⟩ rfl rfl (fun A w ga hga hW hblk => (of_c ga bi rb _ y samplesL w hblk ⟨z38, z38, trivial⟩ hb (by omega) (by decide))) ?_
   rintro v cs L ⟨x, rfl, hx, rfl, rfl⟩
   obtain ⟨hl, hok, hfm⟩ := eP0 x hx
   refine aB _ cl99 rfl rfl rfl rfl ⟨rfl, rfl⟩ (fun A w hW => (dJ0 x w (by omega) hok hfm)) ?_
   rintro v L ⟨q, rfl, hq, rfl⟩
   exact mN [0] ⟨q, _, rfl, by rw [hq]; exact hok, rfl, by omega, rfl⟩ rfl rfl z151 rfl ⟨rfl, trivial⟩ (fun _ => rfl)
 refine AllSl.mk fun l1 => ?_
 refine bN _ rH rfl rfl rfl rfl ⟨rfl, rfl⟩ rfl rfl (fun A w ga hga hW hblk => (lV ga bi rb _ _ [1, 2, 3] w hblk ⟨z38, z38, trivial⟩ hb (by omega) (by decide))) ?_
 rintro v cs L ⟨x0, rfl, hx0, rfl, rfl⟩
 refine AllSl.mk fun a0 => ?_
 refine AllSl.mk fun l2 => ?_
 refine bN _ rH rfl rfl rfl rfl ⟨rfl, rfl⟩ rfl rfl (fun A w ga hga hW hblk => (lV ga bi rb _ _ [1, 2, 0] w hblk ⟨z38, z38, trivial⟩ hb (by omega) (by decide))) ?_
 rintro v cs L ⟨x1, rfl, hx1, rfl, rfl⟩
 refine AllSl.mk fun a1 => ?_
 refine AllSl.mk fun a2 => ?_
 refine AllSl.mk fun l3 => ?_
 refine bN _ rH rfl rfl rfl rfl ⟨rfl, rfl⟩ rfl rfl (fun A w ga hga hW hblk => (lV ga bi rb _ _ [1, 0, 2] w hblk ⟨z38, z38, trivial⟩ hb (by omega) (by decide))) ?_
 rintro v cs L ⟨x2, rfl, hx2, rfl, rfl⟩
 refine AllSl.mk fun a3 => ?_
 refine bN _ sX rfl rfl rfl rfl ⟨rfl, rfl⟩ rfl rfl (fun A w ga hga hW hblk => (kG ga bi rb _ _ w hblk ⟨z38, trivial⟩ hb (by omega))) ?_
 rintro v cs L ⟨k1, rfl, hk1, _, rfl, rfl⟩
 have hk2 := hk1 (by decide)
 have hn0 : IntKind.i64.wrap (2 + (k1 : Int)) = ((2 + k1 : Nat) : Int) := by rw [cV] <;> omega
 have ok0 : ProgOk (Prog.mk [x0, 1] [x1] [2] [x2] [[]]) := by
   simp only [List.mem_cons, List.not_mem_nil, or_false] at hx0 hx1 hx2
   refine ⟨⟨by simp, fun x hx => ?_⟩, ⟨by simp, fun x hx => ?_⟩, ⟨by simp, fun x hx => ?_⟩, ⟨by simp, fun x hx => ?_⟩, by simp, by simp, fun t ht => ?_⟩
   · simp at hx; omega
   · simp at hx; omega
   · simp at hx; omega
   · simp at hx; omega
   · simp at ht; subst ht; exact ⟨by simp, fun o ho => by cases ho⟩
 clear hx0 hx1 hx2
 refine LoopW.mk ⟨{ u : Nat × ProgH × Nat // u.1 + u.2.1.threads.length = 2 + k1 ∧ (∀ t ∈ u.2.1.threads, t.m.length ≤ 8 ∧ ∀ o ∈ t.m, OpOk (Prog.mk [x0, 1] [x1] [2] [x2] [[]]) o) ∧ (u.2.1.sems = [x0, 1] ∧ u.2.1.groups = [x1] ∧ u.2.1.barriers = [2] ∧ u.2.1.rooms = [x2]) ∧ u.2.2 ≤ p + 5 + 20 * u.2.1.threads.length },
   fun u => .mk [(0, .p 0 0), (2, .p 1 0), (5, .p 2 0), (6, .v (.int .i64 (u.1.1 : Int)))] 3 0 [(2, 26, 5), (1, 26, 5), (0, 140, 2)] [((0, 0), .v (bi.val rb.length)), ((0, 1), .v (.int .i64 (u.1.2.2 : Int))), ((2, 0), .v (u.1.2.1.h0.val u.1.2.1.sems.length)), ((2, 1), .v (u.1.2.1.h1.val u.1.2.1.groups.length)), ((2, 2), .v (u.1.2.1.h2.val u.1.2.1.barriers.length)), ((2, 3), .v (u.1.2.1.h3.val u.1.2.1.rooms.length)), ((2, 4), .v (u.1.2.1.h4.val u.1.2.1.threads.length))] [fO (aV u.1.2.1), slo bi gS 1 rb],
   fun u => u.1.1, ⟨(2 + k1, ⟨[x0, 1], [x1], [2], [x2], [], a0, a1, a2, a3, ⟨none, 0⟩⟩, p + 5), rfl, fun t ht => (by cases ht), ⟨rfl, rfl, rfl, rfl⟩, Nat.le_refl _⟩, ?_, ?_⟩
 · refine aO (.joinO [5, 3, 2, 0, 90] (Gs := [[_], [_], [_], [_], [own ⟨none, 0⟩ 68 kI 1 ([] : List OpSH)]]) ⟨.inl ⟨_, rfl, .own⟩, .inl ⟨_, rfl, .own⟩, .inl ⟨_, rfl, .own⟩, .inl ⟨_, rfl, .own⟩, .inr ⟨Nat.le_of_ble_eq_true rfl, fun g hg => by simp only [List.mem_singleton] at hg; subst hg; exact ⟨rfl, rfl, rfl, rfl⟩⟩, trivial⟩ rfl (G := aV ⟨[x0, 1], [x1], [2], [x2], [], a0, a1, a2, a3, ⟨none, 0⟩⟩) (.of_eq rfl)) ?_
   refine aC [0, 4] ?_ ?_ ?_ ?_ ?_ rfl rfl
   · exact zw25
   · exact zw0
   · exact zw25
   · exact zw5
   · repeat (first | exact trivial | refine ⟨.inl ⟨_, rfl, (by first | rfl | ((exact congrArg (fun z => SV.v (Value.int .i64 z)) hn0)))⟩, ?_⟩ | refine ⟨.inr z146, ?_⟩)
 rintro ⟨⟨i, q, p1⟩, i1, i2, i3, i4⟩
 simp only at i1 i2 i3 i4 ⊢
 refine CaseB.mk (fun gi => ?_) (fun gi => ?_)
 · have hi : 0 < i := by have := of_decide_eq_true gi; omega
   have hwi : IntKind.i64.wrap ((i : Int) - 1) = ((i - 1 : Nat) : Int) := by rw [cV] <;> omega
   refine AllSl.mk fun z0 => ?_
   refine AllSl.mk fun l4 => ?_
   refine bN _ rH rfl rfl rfl rfl ⟨rfl, rfl⟩ rfl rfl (fun A w ga hga hW hblk => (lV ga bi rb _ _ [2, 3, 1, 4, 0] w hblk ⟨z38, z38, trivial⟩ hb (by omega) (by decide))) ?_
   rintro v cs L ⟨m, rfl, hm, rfl, rfl⟩
   have hm4 : 0 ≤ m ∧ m ≤ 4 := by simp at hm; omega
   clear hm
   refine LoopW.mk ⟨{ u : Int × Sl × List Op × Nat // 0 ≤ u.1 ∧ u.1 + u.2.2.1.length = m ∧ (∀ o ∈ u.2.2.1, OpOk q.pure o) ∧ u.2.2.2 ≤ p1 + 1 + 4 * u.2.2.1.length },
     fun u => .mk [(0, .p 0 0), (2, .p 1 0), (5, .p 2 0), (6, .v (.int .i64 (i : Int))), (7, .v (u.1.2.1.val u.1.2.2.1.length)), (8, .v (.int .i64 u.1.1))] 3 0 [(2, 26, 5), (1, 26, 5), (0, 140, 2)] [((0, 0), .v (bi.val rb.length)), ((0, 1), .v (.int .i64 (u.1.2.2.2 : Int))), ((2, 0), .v (q.h0.val q.sems.length)), ((2, 1), .v (q.h1.val q.groups.length)), ((2, 2), .v (q.h2.val q.barriers.length)), ((2, 3), .v (q.h3.val q.rooms.length)), ((2, 4), .v (q.h4.val q.threads.length))] [own u.1.2.1 65 cOp 3 u.1.2.2.1, fO (aV q), slo bi gS 1 rb],
     fun u => u.1.1.toNat, ⟨(m, z0, [], p1 + 1), hm4.1, by simp, by simp, Nat.le_refl _⟩, ?_, ?_⟩
   · exact aC [1, 2, 3] zw2 zw0 zw2 zw5 zw4 rfl rfl
   rintro ⟨⟨j, z, ops, p2⟩, j1, j2, j3, j4⟩
   simp only at j1 j2 j3 j4 ⊢
   refine CaseB.mk (fun gj => ?_) (fun gj => ?_)
   · have hj : 0 < j := by have := of_decide_eq_true gj; omega
     have hwj : IntKind.i64.wrap (j - 1) = j - 1 := by rw [cV] <;> omega
     refine bN _ cl102 rfl rfl rfl rfl ⟨rfl, rfl⟩ rfl rfl (fun A w ga hga hW hblk => (op6_c ga bi rb _ q w hblk ⟨hW.getP _ hga rfl 2 rfl (.refl _), hW.getP _ hga rfl 1 rfl (.O_R fun _ h => h), trivial⟩ hb (by omega))) ?_
     rintro v cs L ⟨o, p3, rfl, ho, rfl, hp3, rfl⟩
     refine AllSl.mk fun b => ?_
     refine bR oH 1 aA (xs := ops) (ys := [o]) rfl rfl rfl rfl rfl rfl rfl rfl rfl (by decide) ⟨rfl, rfl⟩ rfl z40 z48 z48 (fun z3 => ?_)
     refine ⟨⟨(j - 1, z3, ops ++ [o], p3), show 0 ≤ j - 1 by omega, by simp; omega, fun o' ho' => ?_, by simp; omega⟩, ?_, by simp only; omega⟩
     · rcases List.mem_append.1 ho' with h | h
       · exact j3 _ h
       · simp only [List.mem_singleton] at h; subst h; exact ho
     · exact aC [0, 2, 3] zw6 zw0 zw6 zw5 zw12 rfl rfl
   refine AllSl.mk fun b => ?_
   refine xE (.splitO 2 (L := [own q.h4 68 kI 1 q.threads]) (G' := gJ0 q) rfl (zW q)) ?_
   obtain ⟨x, hx⟩ : ∃ x : OpSH, x = ⟨ops, z⟩ := ⟨_, rfl⟩
   refine bR dR 0 aA (xs := q.threads) (ys := [⟨ops, z⟩]) rfl rfl rfl rfl rfl rfl rfl rfl rfl (by decide) ⟨rfl, rfl⟩ rfl z40 z48 z48 (fun z5 => ?_)
   rw [← hx]
   refine ⟨⟨(i - 1, { q with threads := q.threads ++ [x], h4 := z5 }, p2), by simp; omega, fun t ht => ?_, i3, by simp; omega⟩, ?_, by simp only; omega⟩
   · have hq : q.pure = ⟨[x0, 1], [x1], [2], [x2], q.threads.map (·.m)⟩ := by simp [ProgH.pure, i3.1, i3.2.1, i3.2.2.1, i3.2.2.2]
     rcases List.mem_append.1 ht with ht | ht
     · exact i2 t ht
     · simp only [List.mem_singleton] at ht
       rw [ht, hx]
       exact ⟨by show ops.length ≤ 8; omega, fun o ho => by have := j3 o ho; rw [hq] at this; exact this⟩
   · refine aO (.joinO [0, 1, 3] (Gs := [[_], _, [_]]) ⟨.inl ⟨_, rfl, .own⟩, .inl ⟨_, rfl, .o⟩, .inl ⟨_, rfl, .own⟩, trivial⟩ rfl (G := aV { q with threads := q.threads ++ [x], h4 := z5 }) (by subst hx; exact lE0 q _ z5)) ?_
     exact aC [0, 2] zw15 zw0 zw15 zw5 zw33 rfl rfl
 have hi : i = 0 := by have := of_decide_eq_false gi; omega
 have hq : q.pure = ⟨[x0, 1], [x1], [2], [x2], q.threads.map (·.m)⟩ := by simp [ProgH.pure, i3.1, i3.2.1, i3.2.2.1, i3.2.2.2]
 have hops : ∀ t ∈ q.threads.map (·.m), t.length ≤ 8 ∧ ∀ o ∈ t, OpOk (Prog.mk [x0, 1] [x1] [2] [x2] [[]]) o := fun t ht => by
   obtain ⟨t', ht', rfl⟩ := List.mem_map.1 ht
   exact i2 t' ht'
 have hl : (q.threads.map (·.m)).length = 2 + k1 := by rw [List.length_map]; omega
 have ok : ProgOk q.pure := by
   rw [hq]
   exact ⟨ok0.sems, ok0.groups, ok0.barriers, ok0.rooms, by show 1 ≤ (q.threads.map (·.m)).length; omega, by show (q.threads.map (·.m)).length ≤ 4; omega, hops⟩
 exact mN [0] ⟨q, _, rfl, ok, rfl, by omega, rfl⟩ rfl rfl z151 rfl ⟨rfl, trivial⟩ (fun _ => rfl)
open Classical in
noncomputable def goM2 (p : Prog) (ch : List Int → List Int → Option Int) : Nat → State → List Int → Option (State × List Int)
 | 0, s, tr => some (s, tr)
 | n + 1, s, tr => match ch tr (cQ s) with
   | none => some (s, tr)
   | some t => if StepOk p s t then goM2 p ch n (doM p s t) (tr ++ [t]) else none
def zX (s : State) (c : Int) : Int := (cQ s).getD (c % ((cQ s).length : Int)).toNat 0
open Classical in
noncomputable def runC (p : Prog) : State → List Int → List Int → Option (State × List Int)
 | s, tr, [] => some (s, tr)
 | s, tr, c :: r => if c < 0 then none else if cQ s = [] then runC p s tr r else
   if StepOk p s (zX s c) then runC p (doM p s (zX s c)) (tr ++ [zX s c]) r else none
open Classical in
noncomputable def runP (p : Prog) (cs : List Int) : Option (State × List Int) := if ProgOk p ∧ cs.length ≤ 100 then runC p (start p) [] cs else none
open Classical in
theorem qN {p : Prog} : ∀ {s : State} {tr a b : List Int} {r : State × List Int}, runC p s tr (a ++ b) = some r → ∃ s' tr', runC p s tr a = some (s', tr') ∧ runC p s' tr' b = some r
 | s, tr, [], b, r, h => ⟨s, tr, rfl, h⟩
 | s, tr, c :: a, b, r, h => by
   rw [List.cons_append, runC] at h
   rw [runC]
   split at h
   · cases h
   rename_i h0
   rw [if_neg h0]
   split at h
   · rename_i h1
     rw [if_pos h1]
     exact qN h
   rename_i h1
   rw [if_neg h1]
   split at h
   · rename_i h2
     rw [if_pos h2]
     exact qN h
   · cases h
theorem pG {p : Prog} : ∀ {s : State} {tr cs : List Int} {r : State × List Int}, runC p s tr cs = some r → ∃ e, r.2 = tr ++ e ∧ e.length ≤ cs.length
 | s, tr, [], r, h => by cases h; exact ⟨[], by simp, Nat.le_refl _⟩
 | s, tr, c :: cs, r, h => by
   rw [runC] at h
   split at h
   · cases h
   split at h
   · obtain ⟨e, h1, h2⟩ := pG h
     exact ⟨e, h1, Nat.le_succ_of_le h2⟩
   split at h
   · obtain ⟨e, h1, h2⟩ := pG h
     exact ⟨zX s c :: e, by rw [h1]; simp, Nat.succ_le_succ h2⟩
   · cases h
theorem iD0 {p : Prog} {cs : List Int} {r : State × List Int} (h : runP p cs = some r) (k : Nat) : ∃ s' tr', runP p (cs.take k) = some (s', tr') ∧ tr'.length ≤ r.2.length ∧ r.2.take tr'.length = tr' ∧ r.2.length ≤ 100 := by
 rw [runP] at h
 split at h
 · rename_i hc
   have h0 := h
   rw [← List.take_append_drop k cs] at h
   obtain ⟨s', tr', h1, h2⟩ := qN h
   obtain ⟨e, h3, _⟩ := pG h2
   obtain ⟨e2, h4, h5⟩ := pG h0
   refine ⟨s', tr', ?_, by rw [h3]; simp, by rw [h3]; simp, by rw [h4, List.nil_append]; omega⟩
   rw [runP, if_pos ⟨hc.1, by rw [List.length_take]; omega⟩]
   exact h1
 · cases h
end Go.Proofs.YtijmjecehppbfaaGreat
namespace Go.Proofs.YtijmjecehppbfaaGreat
set_option maxRecDepth 100000
set_option maxHeartbeats 100000000
open Go Go.Sx Go.RowKit
def RunAS (A : Option (State × List Int)) (v : Value) (L : List Fct) : Prop := ∃ (y : StateH) (z : Sl) (tr : List Int) (b : Bool), v = .tuple #[mJ0 y z tr.length, .bool b] ∧ (b = true ↔ A.isSome = true) ∧ (b = true → A = some (y.pure, tr)) ∧ (b = false → y.pure = State.zero ∧ tr = []) ∧ L = [fN (aK y), own z 3 aJ 1 tr]
theorem eV0 (s : State) (h : s.small20) : (cQ s).length ≤ 1048576 := by
 have : (cQ s).length ≤ s.status.length := by
   rw [cQ]
   split
   · exact mW _
   · exact Nat.zero_le _
 exact Nat.le_trans this h.2.1
theorem yH (p : ProgH) (q : Sl) (tc : List Int) (w : World) (h : At w [fR (aV p), slo q aJ 1 tc]) (hp : p.pure.small20) :
   Calls Tryz.prog 11 #[dJ p, q.val tc.length] w (Ret w (RunAS (runP p.pure tc))) := by
 refine cM Tryz.func11 rfl aA w _ rfl _ rfl _ h ⟨rfl, rfl, rfl, rfl, trivial⟩ _ _ (by decide) ?_
 refine aB _ cl46 rfl rfl rfl rfl ⟨rfl, rfl⟩ (fun A w hW => tV p w ⟨hW.get 0 rfl (.refl _), trivial⟩ (sO hp)) ?_
 rintro v L ⟨y0, b0, rfl, i1, i2, i3, rfl⟩
 apply CaseB.mk <;> intro g
 · have e : b0 = false := by simpa using g
   have n : runP p.pure tc = none := by
     rw [runP, if_neg]
     rintro ⟨ok, _⟩
     rw [i1.2 ok] at e; cases e
   rw [n]
   refine aP (.joinO [90] (Gs := [_]) ⟨.inr ⟨Nat.le_of_ble_eq_true rfl, eA⟩, trivial⟩ rfl (G := aK StateH.zero) (.of_eq (by simp))) ?_
   refine aP (Shift.packK (G := aK StateH.zero) 0 rfl) ?_
   exact bC [0, 99] ⟨StateH.zero, gH, [], false, rfl, by simp, fun e => z110, fun _ => ⟨rfl, rfl⟩, rfl⟩ z133 rfl ⟨rfl, rfl, trivial⟩ (fun _ => rfl)
 have e : b0 = true := by simpa using g
 have ok := i1.1 e
 have hst := i2 e
 apply CaseB.mk <;> intro g
 · have n : runP p.pure tc = none := by
     rw [runP, if_neg]
     rintro ⟨_, h⟩
     have g' := of_decide_eq_true g
     omega
   rw [n]
   refine aP (.joinO [90] (Gs := [_]) ⟨.inr ⟨Nat.le_of_ble_eq_true rfl, eA⟩, trivial⟩ rfl (G := aK StateH.zero) (.of_eq (by simp))) ?_
   refine aP (Shift.packK (G := aK StateH.zero) 0 rfl) ?_
   exact bC [0, 99] ⟨StateH.zero, gH, [], false, rfl, by simp, fun e => z110, fun _ => ⟨rfl, rfl⟩, rfl⟩ z133 rfl ⟨rfl, rfl, trivial⟩ (fun _ => rfl)
 have hl : tc.length ≤ 100 := by have g' := of_decide_eq_false g; omega
 refine AllSl.mk fun z0 => ?_
 obtain ⟨ANS, hANS⟩ : ∃ ANS, ANS = runP p.pure tc := ⟨_, rfl⟩
 have hA2 : ANS = runC p.pure (start p.pure) [] tc := by rw [hANS, runP, if_pos ⟨ok, hl⟩]
 rw [← hANS]
 refine LoopW.mk ⟨{ u : Nat × StateH × Sl × List Int // u.1 ≤ tc.length ∧ u.2.2.2.length ≤ u.1 ∧ runC p.pure u.2.1.pure u.2.2.2 (tc.drop u.1) = ANS ∧ u.2.1.pure.small20 },
   fun u => .mk [(1, .v (q.val tc.length)), (2, .p 0 0), (4, .p 1 0), (6, .p 2 0), (8, .v (u.1.2.2.1.val u.1.2.2.2.length)), (9, .v (.int .i64 (u.1.1 : Int)))] 3 0 [(0, 26, 5), (1, 37, 10), (2, 35, 9)] [((0, 0), .v (p.h0.val p.sems.length)), ((0, 1), .v (p.h1.val p.groups.length)), ((0, 2), .v (p.h2.val p.barriers.length)), ((0, 3), .v (p.h3.val p.rooms.length)), ((0, 4), .v (p.h4.val p.threads.length)), ((2, 0), .v (u.1.2.1.h0.val u.1.2.1.places.length)), ((2, 1), .v (u.1.2.1.h1.val u.1.2.1.status.length)), ((2, 2), .v (u.1.2.1.h2.val u.1.2.1.sems.length)), ((2, 3), .v (u.1.2.1.h3.val u.1.2.1.onces.length)), ((2, 4), .v (u.1.2.1.h4.val u.1.2.1.groups.length)), ((2, 5), .v (u.1.2.1.h5.val u.1.2.1.barriers.length)), ((2, 6), .v (u.1.2.1.h6.val u.1.2.1.chans.length)), ((2, 7), .v (u.1.2.1.h7.val u.1.2.1.said.length)), ((2, 8), .v (.int .i64 u.1.2.1.fault))] [fN (aK u.1.2.1), own u.1.2.2.1 3 aJ 1 u.1.2.2.2, fR (aV p), slo q aJ 1 tc],
   fun u => tc.length - u.1.1, ⟨(0, y0, z0, []), Nat.zero_le _, Nat.le_refl _, by rw [hst, hA2]; rfl, by rw [hst]; exact lK ok⟩, ?_, ?_⟩
 · refine aO (Shift.packK (G := aK y0) 1 rfl) ?_
   exact aC [0, 1, 2, 3] zw2 zw0 zw2 zw5 zw4 rfl rfl
 rintro ⟨⟨i, y, z, tr⟩, hi, htl, hy, hys⟩
 simp only at hi htl hy hys ⊢
 have hb : y.status.length ≤ 1048576 := hys.2.1
 have hrl := eV0 _ hys
 apply CaseB.mk <;> intro g
 · have hlt : i < tc.length := by simpa using g
   have hw := bE i _ hlt (by omega)
   have hdr : tc.drop i = tc[i] :: tc.drop (i + 1) := List.drop_eq_getElem_cons hlt
   rw [hdr, runC] at hy
   refine aB _ cl47 rfl rfl rfl rfl ⟨rfl, rfl⟩ (fun A w hW => dA0 y w ⟨hW.get 0 rfl (xQ _), trivial⟩ hb) ?_
   rintro v L ⟨yr, rfl, rfl⟩
   refine aG aD aA rfl rfl rfl rfl rfl ⟨rfl, rfl⟩ z40 i rfl z48 (fun ad => ?_)
   apply CaseB.mk <;> intro g
   · have h0 : tc[i] < 0 := of_decide_eq_true g
     rw [if_pos h0] at hy
     rw [← hy]
     refine aP (.joinO [90] (Gs := [_]) ⟨.inr ⟨Nat.le_of_ble_eq_true rfl, eA⟩, trivial⟩ rfl (G := aK StateH.zero) (.of_eq (by simp))) ?_
     refine aP (Shift.packK (G := aK StateH.zero) 0 rfl) ?_
     exact bC [0, 99] ⟨StateH.zero, gH, [], false, rfl, by simp, fun e => z110, fun _ => ⟨rfl, rfl⟩, rfl⟩ z133 rfl ⟨rfl, rfl, trivial⟩ (fun _ => rfl)
   have h0 : ¬ tc[i] < 0 := of_decide_eq_false g
   rw [if_neg h0] at hy
   apply CaseB.mk <;> intro g
   · have hr : cQ y.pure = [] := List.eq_nil_of_length_eq_zero (by have g' : ((cQ y.pure).length : Int) = 0 := z103; omega)
     rw [if_pos hr] at hy
     refine ⟨⟨(i + 1, y, z, tr), hlt, Nat.le_succ_of_le htl, hy, hys⟩, ?_, by simp only; omega⟩
     exact aC [1, 2, 3, 4] zw1 zw0 zw1 zw5 zw3 rfl rfl
   have hr : ¬ cQ y.pure = [] := fun e => by rw [e] at g; simp at g
   have hr0 : 0 < (cQ y.pure).length := List.length_pos_iff.2 hr
   rw [if_neg hr] at hy
   refine aG aD aA rfl rfl rfl rfl rfl ⟨rfl, rfl⟩ z40 i rfl z48 (fun ad2 => ?_)
   obtain ⟨j, hj⟩ : ∃ j : Nat, (j : Int) = tc[i] % ((cQ y.pure).length : Int) := ⟨(tc[i] % ((cQ y.pure).length : Int)).toNat, Int.toNat_of_nonneg (Int.emod_nonneg _ (by omega))⟩
   have hjl : j < (cQ y.pure).length := by have := Int.emod_lt_of_pos tc[i] (show (0 : Int) < (cQ y.pure).length by omega); omega
   refine cK rfl rfl rfl ⟨rfl, rfl⟩ (.int .i64 (j : Int)) (fun w => eD w) (fun w => qU (by omega) (by rw [hj]; exact (Int.tmod_eq_emod_of_nonneg (by omega)).symm) w) ?_
   refine aG aD aA rfl rfl rfl rfl rfl ⟨rfl, rfl⟩ z40 j rfl z48 (fun ad3 => ?_)
   have hpk : zX y.pure tc[i] = (cQ y.pure)[j] := by
     have ej : (tc[i] % ((cQ y.pure).length : Int)).toNat = j := by omega
     rw [zX, ej, List.getD_eq_getElem?_getD, List.getElem?_eq_getElem hjl]; rfl
   obtain ⟨t, ht⟩ : ∃ t, t = (cQ y.pure)[j] := ⟨_, rfl⟩
   rw [hpk, ← ht] at hy
   rw [← ht]
   refine aB _ cl29 rfl rfl rfl rfl ⟨rfl, rfl⟩ (fun A w hW => rY p y t w ⟨hW.get 3 rfl (.refl _), hW.get 1 rfl (xQ _), trivial⟩ hp hys) ?_
   rintro v L ⟨y3, b2, rfl, j1, j2, j3, rfl⟩
   apply CaseB.mk <;> intro g
   · have e : b2 = false := by simpa using g
     have hn : ¬ StepOk p.pure y.pure t := fun h => by rw [j1.2 h] at e; cases e
     rw [if_neg hn] at hy
     rw [← hy]
     refine aP (.joinO [90] (Gs := [_]) ⟨.inr ⟨Nat.le_of_ble_eq_true rfl, eA⟩, trivial⟩ rfl (G := aK StateH.zero) (.of_eq (by simp))) ?_
     refine aP (Shift.packK (G := aK StateH.zero) 0 rfl) ?_
     exact bC [0, 99] ⟨StateH.zero, gH, [], false, rfl, by simp, fun e => z110, fun _ => ⟨rfl, rfl⟩, rfl⟩ z133 rfl ⟨rfl, rfl, trivial⟩ (fun _ => rfl)
   have e2 : b2 = true := by simpa using g
   have hok := j1.1 e2
   have hy3 := j2 e2
   rw [if_pos hok] at hy
   refine AllSl.mk fun zk => ?_
   refine bR aD 4 aA (xs := tr) (ys := [t]) rfl rfl rfl rfl rfl rfl rfl rfl rfl (by decide) ⟨rfl, rfl⟩ rfl z40 z48 z48 (fun z2 => ?_)
   refine ⟨⟨(i + 1, y3, z2, tr ++ [t]), hlt, by simp only [List.length_append, List.length_singleton]; omega, by simp only [hy3]; exact hy, by rw [hy3]; exact hok.2.2.2.small⟩, ?_, by simp only; omega⟩
   exact aC [2, 0, 5, 6] zw1 zw0 zw1 zw5 zw3 rfl rfl
 have hge : tc.length ≤ i := by simpa using g
 rw [List.drop_eq_nil_of_le hge] at hy
 rw [← hy]
 exact bC [0, 1] ⟨y, z, tr, true, rfl, by simp [runC], fun _ => rfl, fun e => z110, rfl⟩ z144 rfl ⟨rfl, rfl, trivial⟩ (fun _ => rfl)
section
variable {T T' : List (Nat × SV)}
theorem look_cons (h : Sx.look T' = Sx.look T) (d : Nat) (s : SV) : Sx.look ((d, s) :: T') = Sx.look ((d, s) :: T) := by
 funext k
 simp only [Sx.look, h]
theorem qO (h : Sx.look T' = Sx.look T) : bF T' = bF T := by
 funext x
 cases x <;> simp only [bF, h]
theorem xZ (h : Sx.look T' = Sx.look T) : mI T' = mI T := by
 funext x
 simp only [mI, qO h]
theorem iE0 (h : Sx.look T' = Sx.look T) : pN T' = pN T := by
 funext xs
 induction xs with
 | nil => rfl
 | cons x r ih => simp only [pN, qO h, ih]
theorem dK0 (h : Sx.look T' = Sx.look T) (fs : List (Nat × Nat × Bool)) (ps : List (Nat × Operand)) : ∀ cs, jZ fs T' cs ps = jZ fs T cs ps := by
 induction ps with
 | nil => intro cs; simp only [jZ]
 | cons x r ih =>
   intro cs
   obtain ⟨i, x⟩ := x
   simp only [jZ, xZ h, ih]
theorem iF0 (h : Sx.look T' = Sx.look T) (esz : Nat) (ps : List (Nat × Operand)) : ∀ i, lM T' esz i ps = lM T esz i ps := by
 induction ps with
 | nil => intro i; simp only [lM]
 | cons x r ih =>
   intro i
   obtain ⟨j, x⟩ := x
   simp only [lM, xZ h, ih]
theorem lF0 (h : Sx.look T' = Sx.look T) (ti : Nat → TI) (c : Nat) (M : List ((Nat × Nat) × SV)) (op : Go.Op) : rQ ti T' c M op = rQ ti T c M op := by
 cases op <;> simp only [rQ, eY0, eZ0, sT, aC0, oR, rP, lR0, pUn, fA0, lS0, fB0, lT0, aE0, qO h, xZ h, iE0 h, dK0 h]
theorem yA (h : Sx.look T' = Sx.look T) (ops : List Oper) (g : Option (Nat × Bool)) : dX ops T' g = dX ops T g := by
 cases g with
 | none => rfl
 | some g => obtain ⟨j, jW⟩ := g; simp only [dX, dR0, h]
theorem vW (h : Sx.look T' = Sx.look T) (ti : Nat → TI) (ops : List Oper) (c : Nat) (Ms : List ((Nat × Nat) × SV)) : ∀ l, dY ti ops T' c Ms l = dY ti ops T c Ms l
 | [] => rfl
 | i :: r => by simp only [dY, yA h, lF0 h, vW h ti ops c Ms r]
theorem TD.cg (h : Sx.look T' = Sx.look T) {E : Env} {A : Nat → Nat} {n c : Nat} {a : Act} {w : World} (k : TD E A T' n c a w) : TD E A T n c a w := ⟨k.size, k.defers, fun t v hv => k.tm t v (by rw [h]; exact hv)⟩
end
theorem WD.perm {E : Env} {A : Nat → Nat} {n : Nat} {B : List (Nat × TypeId × Nat)} {M : List ((Nat × Nat) × SV)} {Zs Zs' : List Fct} {w : World} (h : Zs'.Perm Zs) (k : WD E A n B M Zs' w) : WD E A n B M Zs w :=
 ⟨k.key, k.inj, k.mem, k.a0, k.n0, k.ext, fun f hf => k.fct f (h.mem_iff.2 hf), (h.pairwise_iff (fun h => Dj.symm h)).1 k.dj⟩
def vB (K : St → Prop) : Prop := ∀ (T T' : List (Nat × SV)) (n c : Nat) (B : List (Nat × TypeId × Nat)) (M : List ((Nat × Nat) × SV)) (Zs Zs' : List Fct), Sx.look T' = Sx.look T → Zs'.Perm Zs → K (.mk T n c B M Zs) → K (.mk T' n c B M Zs')
theorem uH {E : Env} {o : Oper} {Ms : List ((Nat × Nat) × SV)} {Fs : List Fct} {next : St → Prop} {T T' : List (Nat × SV)} {n c : Nat} {B : List (Nat × TypeId × Nat)} {M : List ((Nat × Nat) × SV)} {Zs Zs' : List Fct} (h : Sx.look T' = Sx.look T) (hp : Zs'.Perm Zs) (k : OpW (opD E o Ms Fs next T n c B M Zs)) : OpW (opD E o Ms Fs next T' n c B M Zs') :=
 ⟨fun hm hf A a w hW hT => k.out hm (fun f hf' => hp.mem_iff.1 (hf f hf')) A a w (WD.perm hp hW) (TD.cg h hT)⟩
theorem iG0 {E : Env} {ti : Nat → TI} {o : Oper} {Ms : List ((Nat × Nat) × SV)} {Fs : List Fct} {next : St → Prop} (hn : vB next) {T T' : List (Nat × SV)} {n c : Nat} {B : List (Nat × TypeId × Nat)} {M : List ((Nat × Nat) × SV)} {Zs Zs' : List Fct} (h : Sx.look T' = Sx.look T) (hp : Zs'.Perm Zs) (op : Go.Op) (k : yD E ti o Ms Fs next T n c B M Zs op) : yD E ti o Ms Fs next T' n c B M Zs' op := by
 cases op with
 | alloc t =>
   simp only [yD] at k ⊢
   cases hti : ti t with
   | none => simp only [hti] at k
   | mk agg sz zero fs el ik kk b8 =>
     simp only [hti] at k ⊢
     cases hd : o.dst with
     | none => simp only [hd] at k
     | some d =>
       simp only [hd] at k ⊢
       cases h1 : Nat.blt d E.N with
       | false => simp only [h1] at k
       | true =>
         simp only [h1] at k ⊢
         cases h2 : Nat.beq (dG zero) sz with
         | false => simp only [h2] at k
         | true =>
           simp only [h2, eH] at k ⊢
           exact hn _ _ _ _ _ _ _ _ (look_cons h _ _) hp k
 | load t x =>
   have e : rP (ti t) T' c M x = rP (ti t) T c M x := by simp only [rP, qO h]
   simp only [yD, e] at k ⊢
   cases hs : rP (ti t) T c M x with
   | none =>
     simp only [hs] at k ⊢
     exact uH h hp k
   | some s =>
     simp only [hs] at k ⊢
     cases hd : o.dst with
     | none => simp only [hd] at k
     | some d =>
       simp only [hd] at k ⊢
       cases h1 : Nat.blt d E.N with
       | false => simp only [h1] at k
       | true =>
         simp only [h1] at k ⊢
         cases s with
         | e a b c d => exact k
         | _ => exact hn _ _ _ _ _ _ _ _ (look_cons h _ _) hp k
 | store t x y =>
   simp only [yD, qO h] at k ⊢
   cases hd : o.dst with
   | some d => simp only [hd] at k
   | none =>
     simp only [hd] at k ⊢
     cases hx : bF T x with
     | none =>
       simp only [hx] at k ⊢
       exact uH h hp k
     | some v =>
       cases v with
       | p k0 off =>
         simp only [hx] at k ⊢
         cases hti : ti t with
         | none => simp only [hti] at k
         | mk agg sz zero fs el ik kk b8 =>
           simp only [hti] at k ⊢
           cases hy : bF T y with
           | none => simp only [hy] at k
           | some u =>
             simp only [hy] at k ⊢
             cases hl : iK u with
             | none => simp only [hl] at k
             | some l =>
               simp only [hl] at k ⊢
               cases h1 : Nat.beq (dG l) sz with
               | false => simp only [h1] at k
               | true =>
                 simp only [h1] at k ⊢
                 cases h2 : vF B k0 with
                 | none => simp only [h2] at k
                 | some bsz =>
                   simp only [h2] at k ⊢
                   cases h3 : Nat.ble (off + sz) bsz with
                   | false => simp only [h3] at k
                   | true =>
                     simp only [h3] at k ⊢
                     cases h4 : tA Ms k0 off sz with
                     | false => simp only [h4] at k
                     | true =>
                       simp only [h4, eH] at k ⊢
                       exact hn _ _ _ _ _ _ _ _ h hp k
       | _ =>
         simp only [hx] at k ⊢
         exact uH h hp k
 | buildSlice t len ps =>
   simp only [yD, iF0 h] at k ⊢
   cases hti : ti t with
   | none => simp only [hti] at k
   | mk agg size zero fs el ik kk b8 =>
     cases el with
     | none => simp only [hti] at k
     | some e =>
       simp only [hti] at k ⊢
       cases hte : ti e with
       | none => simp only [hte] at k
       | mk agg2 esz zero2 fs2 el2 ik2 kk2 b82 =>
         simp only [hte] at k ⊢
         cases hd : o.dst with
         | none => simp only [hd] at k
         | some d =>
           simp only [hd] at k ⊢
           cases h1 : Nat.blt d E.N with
           | false => simp only [h1] at k
           | true =>
             simp only [h1] at k ⊢
             cases h2 : Nat.beq (dG ps.toList) len with
             | false => simp only [h2] at k
             | true =>
               simp only [h2] at k ⊢
               cases h3 : Nat.ble (len * esz + len) 16777216 with
               | false => simp only [h3] at k
               | true =>
                 simp only [h3] at k ⊢
                 cases h4 : lM T esz 0 ps.toList with
                 | none => simp only [h4] at k
                 | some cs =>
                   simp only [h4] at k ⊢
                   exact ⟨fun y => hn _ _ _ _ _ _ _ _ (look_cons h _ _) (hp.cons _) (k.out y)⟩
 | _ => exact uH h hp k
theorem zY {p q : Nat → Prop} : ∀ {l : List Nat}, (∀ i, p i → q i) → gR0 l p → gR0 l q
 | [], _, _ => trivial
 | [i], h, k => h i k
 | i :: j :: r, h, k => ⟨h i k.l, zY (l := j :: r) h k.r⟩
theorem yB {E : Env} {ti : Nat → TI} {ops : List Oper} {n0 : Nat} {B0 : List (Nat × TypeId × Nat)} {Ms : List ((Nat × Nat) × SV)} {Fs : List Fct} {K : St → Prop} (hK : vB K) : ∀ (f : Nat) (L : List Bool), vB (vcD E ti ops n0 B0 Ms Fs K f L)
 | 0, L => fun _ _ _ _ _ _ _ _ _ _ k => k
 | f + 1, L => by
   intro T T' n c B M Zs Zs' h hp k
   have ih := yB (E := E) (ti := ti) (ops := ops) (n0 := n0) (B0 := B0) (Ms := Ms) (Fs := Fs) hK f
   simp only [vcD, vW h] at k ⊢
   cases hpk : dY ti ops T c Ms (gW L 0 ops L) with
   | pure i d s =>
     simp only [hpk] at k ⊢
     cases d with
     | none => exact ih _ _ _ _ _ _ _ _ _ h hp k
     | some d =>
       simp only at k ⊢
       cases h1 : Nat.blt d E.N with
       | false => simp only [h1] at k
       | true =>
         simp only [h1] at k ⊢
         exact ih _ _ _ _ _ _ _ _ _ (look_cons h _ _) hp k
   | skip i d =>
     simp only [hpk] at k ⊢
     cases d with
     | none => exact ih _ _ _ _ _ _ _ _ _ h hp k
     | some d =>
       simp only at k ⊢
       cases h1 : Nat.blt d E.N with
       | false => simp only [h1] at k
       | true =>
         simp only [h1] at k ⊢
         exact ih _ _ _ _ _ _ _ _ _ (look_cons h _ _) hp k
   | split t b =>
     simp only [hpk] at k ⊢
     exact ⟨fun e => ih _ _ _ _ _ _ _ _ _ (look_cons h _ _) hp (k.t e), fun e => ih _ _ _ _ _ _ _ _ _ (look_cons h _ _) hp (k.f e)⟩
   | idx i o =>
     simp only [hpk] at k ⊢
     refine ⟨fun A => ?_⟩
     obtain ⟨s, h1, d, h2, h3⟩ := k.out A
     exact ⟨s, fun a w hW hT => h1 a w hW (TD.cg h hT), d, h2, ih _ _ _ _ _ _ _ _ _ (look_cons h _ _) hp h3⟩
   | none =>
     simp only [hpk] at k ⊢
     cases hr : gW L 0 ops L with
     | nil =>
       simp only [hr] at k ⊢
       exact hK _ _ _ _ _ _ _ _ h hp k
     | cons i r =>
       simp only [hr] at k ⊢
       refine zY (fun j kj => ?_) k
       cases ho : nth ops j with
       | none => simp only [ho] at kj
       | some o =>
         simp only [ho, yA h] at kj ⊢
         cases hg : dX ops T o.guard with
         | go =>
           simp only [hg] at kj ⊢
           exact iG0 (ih (sF L j)) h hp o.op kj
         | _ => simp only [hg] at kj
theorem zZ {E : Env} {α : Type} {tgt : α → St} : vB fun s => ∃ y, Weak E s (tgt y) := by
 rintro T T' n c B M Zs Zs' h hp ⟨y, k⟩
 exact ⟨y, fun a w ⟨A, hW, hT⟩ => k a w ⟨A, WD.perm hp hW, TD.cg h hT⟩⟩
end Go.Proofs.YtijmjecehppbfaaGreat
