/- FnMoreChoices: texts that its proof stands on, part 4. -/
import Derived.Test.YtijmjecehppbfaaGreatQMoreChoicesc
namespace Go.Proofs.YtijmjecehppbfaaGreat
set_option maxRecDepth 100000
set_option maxHeartbeats 100000000
open Go Go.Sx Go.RowKit
def evL {α β : Type} (f : Nat → α → List β) : Nat → List α → List β
 | _, [] => []
 | i, x :: r => f i x ++ evL f (i + 1) r
theorem rZ {α β : Type} (f : Nat → α → List β) : ∀ (i : Nat) (xs ys : List α), evL f i (xs ++ ys) = evL f i xs ++ evL f (i + xs.length) ys
 | i, [], ys => by simp [evL]
 | i, x :: r, ys => by
   simp only [List.cons_append, evL, List.length_cons, rZ f (i + 1) r ys, List.append_assoc]
   rw [show i + 1 + r.length = i + (r.length + 1) by omega]
theorem eY {α β : Type} (f : Nat → α → List β) (xs : List α) {k : Nat} (hk : k < xs.length) : evL f 0 (xs.take (k + 1)) = evL f 0 (xs.take k) ++ f k xs[k] := by
 rw [List.take_succ_eq_append_getElem hk, rZ]
 simp only [evL, List.append_nil, Nat.zero_add, List.length_take]
 rw [Nat.min_eq_left (by omega)]
theorem tD {α β : Type} (f : Nat → α → List β) (xs : List α) {k : Nat} (hk : k < xs.length) : (evL f 0 (xs.take k)).length + (f k xs[k]).length ≤ (evL f 0 xs).length := by
 have h := rZ f 0 (xs.take (k + 1)) (xs.drop (k + 1))
 rw [List.take_append_drop] at h
 rw [h, List.length_append, eY f xs hk, List.length_append]
 omega
def dH (i : Nat) (x : Sem) : List (Int × Waiting) := x.queue.map fun w => (w.t, ⟨2, (i : Int), w.n⟩)
def cR (i : Nat) (x : Once) : List (Int × Waiting) := x.waits.map fun t => (t, ⟨4, (i : Int), 0⟩)
def cT (i : Nat) (x : Group) : List (Int × Waiting) := x.waits.map fun t => (t, ⟨6, (i : Int), 0⟩)
def cK (i : Nat) (x : Barrier) : List (Int × Waiting) := x.waits.map fun t => (t, ⟨7, (i : Int), 0⟩)
def dC (i : Nat) (x : Chan) : List (Int × Waiting) := (x.senders.map fun l => (l.t, ⟨8, (i : Int), l.v⟩)) ++ x.getters.map fun t => (t, ⟨9, (i : Int), 0⟩)
def iC (i : Nat) (x : Once) : List (Int × Int) := if x.state = 1 then [(x.owner, (i : Int))] else []
def bH (s : State) : List (Int × Waiting) := evL dH 0 s.sems ++ evL cR 0 s.onces ++ evL cT 0 s.groups ++ evL cK 0 s.barriers ++ evL dC 0 s.chans
def cJ (s : State) : List (Int × Int) := evL iC 0 s.onces
theorem jS0 {β : Type} (m : List (Int × List β)) (e : Int × β) (t : Int) : ((cL (oG m e) t).getD []).length ≤ ((cL m t).getD []).length + 1 := by
 obtain ⟨k, x⟩ := e
 simp only [oG]
 generalize hu : (cL m k).getD [] = u
 have : ∀ m : List (Int × List β), (cL m k).getD [] = u → ((cL (fW m k (u ++ [x])) t).getD []).length ≤ ((cL m t).getD []).length + 1 := fun m => by
   induction m with
   | nil =>
     intro h
     have hu0 : u = [] := by simpa [cL] using h.symm
     subst hu0
     simp only [fW, cL]
     by_cases e : k = t <;> simp [e]
   | cons p r ih =>
     intro h
     obtain ⟨q, v⟩ := p
     simp only [fW, cL] at h ⊢
     by_cases e : q = k
     · subst e
       simp only [if_true, Option.getD_some] at h
       subst h
       simp only [if_true, cL]
       by_cases e2 : q = t
       · simp [e2]
       · simp [e2]
     · simp only [e, if_false] at h ⊢
       simp only [cL]
       by_cases e2 : q = t
       · simp [e2]
       · simp only [e2, if_false]
         exact ih h
 exact this m hu
theorem hB0 {β : Type} (es : List (Int × β)) (t : Int) : ((cL (dX es) t).getD []).length ≤ es.length := by
 have : ∀ (es : List (Int × β)) (m : List (Int × List β)), ((cL (es.foldl oG m) t).getD []).length ≤ ((cL m t).getD []).length + es.length := fun es => by
   induction es with
   | nil => intro m; simp
   | cons e r ih =>
     intro m
     have h1 := ih (oG m e)
     have h2 := jS0 m e t
     simp only [List.foldl_cons, List.length_cons]
     omega
 have := this es []
 simpa [dX, cL] using this
theorem sA {β : Type} {ps : List (Int × LH β)} {es : List (Int × β)} (h : pm ps = dX es) (t : Int) : ((cL ps t).getD LH.nil).xs.length ≤ es.length := by
 have h1 := hB0 es t
 rw [← h, tB] at h1
 cases hq : cL ps t with
 | none => simp [LH.nil]
 | some u => rw [hq] at h1; simpa using h1
theorem aP0 (s : StateH) (w : World) (h : At w [fR (aK s)]) (hN : (bH s.pure).length ≤ 1048576) (hl : s.sems.length ≤ 1048576 ∧ s.onces.length ≤ 1048576 ∧ s.groups.length ≤ 1048576 ∧ s.barriers.length ≤ 1048576 ∧ s.chans.length ≤ 1048576) :
   Calls Tryz.prog 125 #[aM s] w (Ret w fun v L => ∃ (r r2 : Nat) (ps : List (Int × LH Waiting)) (os : List (Int × LH Int)), v = .tuple #[.map (some r), .map (some r2)] ∧ pm ps = dX (bH s.pure) ∧ pm os = dX (cJ s.pure) ∧ L = [fMW r ps, fO (rW ps), kD r2 rD os, fO (rI os)]) := by
 obtain ⟨l0, l1, l2, l3, l4⟩ := hl
 have hN' := hN
 simp only [bH, List.length_append] at hN'
 have mlen : ∀ {α β : Type} (f : α → β) (xs : List α), (xs.map f).length = xs.length := fun f xs => by simp
 refine bZ Tryz.func125 rfl aA w _ rfl _ rfl _ h ⟨rfl, rfl, trivial⟩ _ (by decide) ?_
 refine oR (rD (β := Waiting)) rfl ⟨rfl, rfl⟩ (fun r => ?_)
 refine oR (rD (β := Int)) rfl ⟨rfl, rfl⟩ (fun r2 => ?_)
 have hE0 : ∃ E : List (Int × Waiting), E = [] := ⟨[], rfl⟩
 have len0 : s.pure.sems.length = s.sems.length := mlen _ _
 refine LoopW.mk ⟨{ p : Nat × List (Int × LH Waiting) × List (Int × LH Int) // p.1 ≤ s.sems.length ∧ pm p.2.1 = dX (([] : List (Int × Waiting)) ++ evL dH 0 (s.pure.sems.take p.1)) ∧ pm p.2.2 = dX ([] : List (Int × Int)) },
   fun p => .mk [(1, .p 0 0), (4, .p 1 0), (5, .v (.map (some r2))), (6, .f 166 [(1, 0)]), (33, .v (s.h2.val s.sems.length)), (34, .v (.int .i64 (s.sems.length : Int))), (35, .v (.int .i64 (p.1.1 : Int)))] 2 0 [(0, 35, 9), (1, 173, 1)]
     [((0, 2), .v (s.h2.val s.sems.length)), ((0, 3), .v (s.h3.val s.onces.length)), ((0, 4), .v (s.h4.val s.groups.length)), ((0, 5), .v (s.h5.val s.barriers.length)), ((0, 6), .v (s.h6.val s.chans.length)), ((1, 0), .v (.map (some r)))] [fMW r p.1.2.1, fO (rW p.1.2.1), kD r2 rD p.1.2.2, fO (rI p.1.2.2), fR (aK s)],
   fun p => s.sems.length - p.1.1, ⟨(0, [], []), Nat.zero_le _, rfl, rfl⟩, ?_, ?_⟩
 · refine aP (.joinO [] (Gs := []) trivial rfl (G := rI []) (.refl _)) ?_
   refine aP (.joinO [] (Gs := []) trivial rfl (G := rW []) (.refl _)) ?_
   exact aC [3, 0, 2, 1, 4] zw2 zw0 zw2 zw5 zw4 rfl rfl
 rintro ⟨⟨k, ps, os⟩, hk, hps, hos⟩
 simp only at hk hps hos
 apply CaseB.mk <;> intro g
 · have hlt : k < s.sems.length := by simpa using g
   have hltp : k < s.pure.sems.length := by rw [len0]; exact hlt
   have hget : s.pure.sems[k] = (s.sems[k]).m := by simp [StateH.pure]
   have hpre := tD dH s.pure.sems hltp
   have hsucc := eY dH s.pure.sems hltp
   rw [hget] at hpre hsucc
   have hw := bD k _ hlt (by omega)
   refine aG cZ aA rfl rfl rfl rfl rfl ⟨rfl, rfl⟩ (aL 4 rfl (.trans (.R_R (bU s)) (.ofR aX))) k rfl z43 (fun ad => ?_)
   refine LoopW.mk ⟨{ p : Nat × List (Int × LH Waiting) // p.1 ≤ (s.sems[k]).m.queue.length ∧ pm p.2 = dX (([] : List (Int × Waiting)) ++ evL dH 0 (s.pure.sems.take k) ++ ((s.sems[k]).m.queue.take p.1).map fun x => (x.t, ⟨2, (k : Int), x.n⟩)) },
     fun p => .mk [(1, .p 0 0), (4, .p 1 0), (5, .v (.map (some r2))), (6, .f 166 [(1, 0)]), (33, .v (s.h2.val s.sems.length)), (34, .v (.int .i64 (s.sems.length : Int))), (35, .v (.int .i64 (k : Int))), (7, .v (.int .i64 (k : Int))), (8, .p 2 0), (41, .v ((s.sems[k]).q.val (s.sems[k]).m.queue.length)), (42, .v (.int .i64 ((s.sems[k]).m.queue.length : Int))), (43, .v (.int .i64 (p.1.1 : Int)))] 3 0 ((2, 95, 3) :: [(0, 35, 9), (1, 173, 1)])
       [((0, 2), .v (s.h2.val s.sems.length)), ((0, 3), .v (s.h3.val s.onces.length)), ((0, 4), .v (s.h4.val s.groups.length)), ((0, 5), .v (s.h5.val s.barriers.length)), ((0, 6), .v (s.h6.val s.chans.length)), ((1, 0), .v (.map (some r)))] [fMW r p.1.2, fO (rW p.1.2), kD r2 rD os, fO (rI os), fR (aK s)],
     fun p => (s.sems[k]).m.queue.length - p.1.1, ⟨(0, ps), Nat.zero_le _, by simpa using hps⟩, ?_, ?_⟩
   · exact aC [0, 1, 2, 3, 4] zw2 zw0 zw2 zw5 zw4 rfl rfl
   rintro ⟨⟨j, ps⟩, hj, hps⟩
   simp only at hj hps
   apply CaseB.mk <;> intro g
   · have hlj : j < (s.sems[k]).m.queue.length := by simpa using g
     have hwj := bD j (s.sems[k]).m.queue.length hlj (by simp only [dH, List.length_map] at hpre; omega)
     have hbnd : ∀ t, ((cL ps t).getD LH.nil).xs.length ≤ 1048576 := fun t => by
       have h1 := sA hps t
       simp only [List.length_append, List.length_map, List.length_take, List.length_nil] at h1
       have h2 : min j (s.sems[k]).m.queue.length ≤ (s.sems[k]).m.queue.length := Nat.min_le_right _ _
       simp only [dH, List.length_map] at hpre; omega
     refine aG cH aA rfl rfl rfl rfl rfl ⟨rfl, rfl⟩ (aL 4 rfl (.trans (.R_R (bU s)) (.ofR (iV _ _ k hlt)))) j rfl z43 (fun ad2 => ?_)
     refine eG _ [0, 1] (G := [_, _]) yL rfl rfl rfl rfl ⟨rfl, rfl⟩ rfl rfl ⟨rfl, rfl, trivial⟩ ⟨rfl, rfl, rfl, rfl, trivial⟩ (fun A w ga hga hW hblk => uM _ _ _ _ ga r ps w hblk (hW.atG [0, 1] (G := [_, _]) ⟨rfl, rfl, trivial⟩ rfl ⟨rfl, rfl, rfl, rfl, trivial⟩ [] (Fo := []) trivial rfl) (hW.atG_off z103 hga (ix := [0, 1]) (G := [_, _]) ⟨rfl, rfl, trivial⟩ (jx := []) (Fo := []) trivial) (hbnd _)) ?_
     rintro v cs L ⟨rfl, rfl, qs, hqs, rfl⟩
     refine ⟨⟨(j + 1, qs), by omega, ?_⟩, ?_, by simp only; omega⟩
     · rw [hqs, hps, ← jR, List.take_succ_eq_append_getElem hlj, List.map_append, List.map_cons, List.map_nil, List.append_assoc _ _ [_]]
     · exact aC [0, 1, 2, 3, 4] zw6 zw0 zw6 zw5 zw11 rfl rfl
   have hgj : (s.sems[k]).m.queue.length ≤ j := by simpa using g
   rw [List.take_of_length_le hgj] at hps
   refine ⟨⟨(k + 1, ps, os), by omega, ?_, hos⟩, ?_, by simp only; omega⟩
   · have e : ([] : List (Int × Waiting)) ++ evL dH 0 (s.pure.sems.take (k + 1)) = ([] : List (Int × Waiting)) ++ evL dH 0 (s.pure.sems.take k) ++ (s.sems[k]).m.queue.map fun x => (x.t, ⟨2, (k : Int), x.n⟩) := by rw [hsucc]; simp [dH]
     show pm ps = dX _
     rw [e]; exact hps
   · exact aC [0, 1, 2, 3, 4] zw1 zw0 zw1 zw5 zw3 rfl rfl
 have hge : s.sems.length ≤ k := by simpa using g
 rw [List.take_of_length_le (by rw [len0]; exact hge)] at hps
 rw [List.nil_append] at hps
 have len1 : s.pure.onces.length = s.onces.length := mlen _ _
 refine LoopW.mk ⟨{ p : Nat × List (Int × LH Waiting) × List (Int × LH Int) // p.1 ≤ s.onces.length ∧ pm p.2.1 = dX (evL dH 0 s.pure.sems ++ evL cR 0 (s.pure.onces.take p.1)) ∧ pm p.2.2 = dX (evL iC 0 (s.pure.onces.take p.1)) },
   fun p => .mk [(1, .p 0 0), (4, .p 1 0), (5, .v (.map (some r2))), (6, .f 166 [(1, 0)]), (57, .v (s.h3.val s.onces.length)), (58, .v (.int .i64 (s.onces.length : Int))), (59, .v (.int .i64 (p.1.1 : Int)))] 2 0 [(0, 35, 9), (1, 173, 1)]
     [((0, 2), .v (s.h2.val s.sems.length)), ((0, 3), .v (s.h3.val s.onces.length)), ((0, 4), .v (s.h4.val s.groups.length)), ((0, 5), .v (s.h5.val s.barriers.length)), ((0, 6), .v (s.h6.val s.chans.length)), ((1, 0), .v (.map (some r)))] [fMW r p.1.2.1, fO (rW p.1.2.1), kD r2 rD p.1.2.2, fO (rI p.1.2.2), fR (aK s)],
   fun p => s.onces.length - p.1.1, ⟨(0, ps, os), Nat.zero_le _, by simpa [evL] using hps, by simpa [evL] using hos⟩, ?_, ?_⟩
 · exact aC [0, 1, 2, 3, 4] zw2 zw0 zw2 zw5 zw4 rfl rfl
 rintro ⟨⟨k, ps, os⟩, hk, hps, hos⟩
 simp only at hk hps hos
 apply CaseB.mk <;> intro g
 · have hlt : k < s.onces.length := by simpa using g
   have hltp : k < s.pure.onces.length := by rw [len1]; exact hlt
   have hget : s.pure.onces[k] = (s.onces[k]).m := by simp [StateH.pure]
   have hpre := tD cR s.pure.onces hltp
   have hsucc := eY cR s.pure.onces hltp
   rw [hget] at hpre hsucc
   have hw := bD k _ hlt (by omega)
   refine aG cX aA rfl rfl rfl rfl rfl ⟨rfl, rfl⟩ (aL 4 rfl (.trans (.R_R (bW s)) (.ofR aX))) k rfl z43 (fun ad => ?_)
   refine LoopW.mk ⟨{ p : Nat × List (Int × LH Waiting) // p.1 ≤ (s.onces[k]).m.waits.length ∧ pm p.2 = dX (evL dH 0 s.pure.sems ++ evL cR 0 (s.pure.onces.take k) ++ ((s.onces[k]).m.waits.take p.1).map fun x => (x, ⟨4, (k : Int), 0⟩)) },
     fun p => .mk [(1, .p 0 0), (4, .p 1 0), (5, .v (.map (some r2))), (6, .f 166 [(1, 0)]), (57, .v (s.h3.val s.onces.length)), (58, .v (.int .i64 (s.onces.length : Int))), (59, .v (.int .i64 (k : Int))), (11, .v (.int .i64 (k : Int))), (12, .p 2 0), (65, .v ((s.onces[k]).q.val (s.onces[k]).m.waits.length)), (66, .v (.int .i64 ((s.onces[k]).m.waits.length : Int))), (67, .v (.int .i64 (p.1.1 : Int)))] 3 0 ((2, 102, 4) :: [(0, 35, 9), (1, 173, 1)])
       [((0, 2), .v (s.h2.val s.sems.length)), ((0, 3), .v (s.h3.val s.onces.length)), ((0, 4), .v (s.h4.val s.groups.length)), ((0, 5), .v (s.h5.val s.barriers.length)), ((0, 6), .v (s.h6.val s.chans.length)), ((1, 0), .v (.map (some r))), ((2, 0), .v (.int .i64 (s.onces[k]).m.state)), ((2, 1), .v (.int .i64 (s.onces[k]).m.owner))] [fMW r p.1.2, fO (rW p.1.2), kD r2 rD os, fO (rI os), fR (aK s)],
     fun p => (s.onces[k]).m.waits.length - p.1.1, ⟨(0, ps), Nat.zero_le _, by simpa using hps⟩, ?_, ?_⟩
   · exact aC [0, 1, 2, 3, 4] zw2 zw0 zw2 zw5 zw4 rfl rfl
   rintro ⟨⟨j, ps⟩, hj, hps⟩
   simp only at hj hps
   apply CaseB.mk <;> intro g
   · have hlj : j < (s.onces[k]).m.waits.length := by simpa using g
     have hwj := bD j (s.onces[k]).m.waits.length hlj (by simp only [cR, List.length_map] at hpre; omega)
     have hbnd : ∀ t, ((cL ps t).getD LH.nil).xs.length ≤ 1048576 := fun t => by
       have h1 := sA hps t
       simp only [List.length_append, List.length_map, List.length_take] at h1
       have h2 : min j (s.onces[k]).m.waits.length ≤ (s.onces[k]).m.waits.length := Nat.min_le_right _ _
       simp only [cR, List.length_map] at hpre; omega
     refine aG aE aA rfl rfl rfl rfl rfl ⟨rfl, rfl⟩ (aL 4 rfl (.trans (.R_R (bW s)) (.ofR (hC _ _ k hlt)))) j rfl z43 (fun ad2 => ?_)
     refine eG _ [0, 1] (G := [_, _]) yL rfl rfl rfl rfl ⟨rfl, rfl⟩ rfl rfl ⟨rfl, rfl, trivial⟩ ⟨rfl, rfl, rfl, rfl, trivial⟩ (fun A w ga hga hW hblk => uM _ _ _ _ ga r ps w hblk (hW.atG [0, 1] (G := [_, _]) ⟨rfl, rfl, trivial⟩ rfl ⟨rfl, rfl, rfl, rfl, trivial⟩ [] (Fo := []) trivial rfl) (hW.atG_off z103 hga (ix := [0, 1]) (G := [_, _]) ⟨rfl, rfl, trivial⟩ (jx := []) (Fo := []) trivial) (hbnd _)) ?_
     rintro v cs L ⟨rfl, rfl, qs, hqs, rfl⟩
     refine ⟨⟨(j + 1, qs), by omega, ?_⟩, ?_, by simp only; omega⟩
     · rw [hqs, hps, ← jR, List.take_succ_eq_append_getElem hlj, List.map_append, List.map_cons, List.map_nil, List.append_assoc _ _ [_]]
     · exact aC [0, 1, 2, 3, 4] zw6 zw0 zw6 zw5 zw11 rfl rfl
   have hgj : (s.onces[k]).m.waits.length ≤ j := by simpa using g
   rw [List.take_of_length_le hgj] at hps
   apply CaseB.mk <;> intro g
   · have hst : (s.onces[k]).m.state = 1 := by simpa using g
     have hob := sA hos (s.onces[k]).m.owner
     have hoL : (evL iC 0 (s.pure.onces.take k)).length ≤ 1048576 := by
       have : ∀ (i : Nat) (xs : List Once), (evL iC i xs).length ≤ xs.length := fun i xs => by
         induction xs generalizing i with
         | nil => simp [evL]
         | cons x r ih =>
           have := ih (i + 1)
           simp only [evL, iC, List.length_append, List.length_cons]
           split <;> simp <;> omega
       have h2 := this 0 (s.pure.onces.take k)
       simp only [List.length_take] at h2
       omega
     obtain ⟨u, hu⟩ : ∃ u, u = (cL os (s.onces[k]).m.owner).getD LH.nil := ⟨_, rfl⟩
     have hpm : ∀ y, pm (fW os (s.onces[k]).m.owner ⟨y, u.xs ++ [(k : Int)]⟩) = oG (pm os) ((s.onces[k]).m.owner, (k : Int)) := fun y => by rw [hu]; exact jR0 os _ _ y
     have hsO := eY iC s.pure.onces hltp
     rw [hget] at hsO
     have hfin : ∀ y, pm (fW os (s.onces[k]).m.owner ⟨y, u.xs ++ [(k : Int)]⟩) = dX (evL iC 0 (s.pure.onces.take (k + 1))) := fun y => by
       rw [hpm, hos, ← jR, hsO]; simp [iC, hst]
     rw [← hu] at hob
     refine jP (Shift.rowOut 3 (s.onces[k]).m.owner rfl) ?_
     rw [← hu]
     refine aF aA z102 z102 z102 200 [((2, 1), .v (.int .i64 (s.onces[k]).m.owner))] [] [] z146 z149 trivial rfl ?_
     refine BothW.mk ?_ ?_
     · refine lM 4 (qk := .i64) (kt := 3) (et := 23) (z := .slice none 0 0) rfl rfl rfl rfl ⟨rfl, rfl⟩ z102 z102 z102 (u.q.val u.xs.length) (by rw [hu]; cases cL os (s.onces[k]).m.owner <;> rfl) ?_
       refine AllSl.mk fun b => ?_
       refine bR (ti := aU tab) aE 1 aA (ys := [(k : Int)]) rfl rfl rfl rfl rfl rfl rfl rfl rfl (by decide) ⟨rfl, rfl⟩ rfl z35 z43 z43 z100 (fun y => ?_)
       refine sZ 5 (⟨y, u.xs ++ [(k : Int)]⟩ : LH Int) (qk := .i64) (kt := 3) (et := 23) rfl rfl rfl rfl (fun _ => rfl) rfl rfl z102 z102 _ rfl z100 ?_
       refine ⟨⟨(k + 1, ps, fW os (s.onces[k]).m.owner ⟨y, u.xs ++ [(k : Int)]⟩), by omega, ?_, hfin y⟩, ?_, by simp only; omega⟩
       · have e : evL dH 0 s.pure.sems ++ evL cR 0 (s.pure.onces.take (k + 1)) = evL dH 0 s.pure.sems ++ evL cR 0 (s.pure.onces.take k) ++ (s.onces[k]).m.waits.map fun x => (x, ⟨4, (k : Int), 0⟩) := by rw [hsucc]; simp [cR]
         show pm ps = dX _
         rw [e]; exact hps
       · refine aP (.joinO [1, 3] (Gs := [[_], _]) z136 rfl (G := rI (fW os (s.onces[k]).m.owner ⟨y, u.xs ++ [(k : Int)]⟩)) (.trans (.of_eq (by simp)) (jG _ (⟨y, u.xs ++ [(k : Int)]⟩ : LH Int) os))) ?_
         exact aC [3, 4, 1, 0, 5] zw1 zw0 zw1 zw5 zw3 rfl rfl
     · refine AllSl.mk fun b => ?_
       refine lM 5 (qk := .i64) (kt := 3) (et := 23) (z := .slice none 0 0) rfl rfl rfl rfl ⟨rfl, rfl⟩ z102 z102 z102 (u.q.val u.xs.length) (by rw [hu]; cases cL os (s.onces[k]).m.owner <;> rfl) ?_
       refine bR (ti := aU tab) aE 1 aA (ys := [(k : Int)]) rfl rfl rfl rfl rfl rfl rfl rfl rfl (by decide) ⟨rfl, rfl⟩ rfl z35 z43 z43 z100 (fun y => ?_)
       refine sZ 5 (⟨y, u.xs ++ [(k : Int)]⟩ : LH Int) (qk := .i64) (kt := 3) (et := 23) rfl rfl rfl rfl (fun _ => rfl) rfl rfl z102 z102 _ rfl z100 ?_
       refine ⟨⟨(k + 1, ps, fW os (s.onces[k]).m.owner ⟨y, u.xs ++ [(k : Int)]⟩), by omega, ?_, hfin y⟩, ?_, by simp only; omega⟩
       · have e : evL dH 0 s.pure.sems ++ evL cR 0 (s.pure.onces.take (k + 1)) = evL dH 0 s.pure.sems ++ evL cR 0 (s.pure.onces.take k) ++ (s.onces[k]).m.waits.map fun x => (x, ⟨4, (k : Int), 0⟩) := by rw [hsucc]; simp [cR]
         show pm ps = dX _
         rw [e]; exact hps
       · refine aP (.joinO [1, 3] (Gs := [[_], _]) z136 rfl (G := rI (fW os (s.onces[k]).m.owner ⟨y, u.xs ++ [(k : Int)]⟩)) (.trans (.of_eq (by simp)) (jG _ (⟨y, u.xs ++ [(k : Int)]⟩ : LH Int) os))) ?_
         exact aC [3, 4, 1, 0, 5] zw1 zw0 zw1 zw5 zw3 rfl rfl
   have hst : ¬ (s.onces[k]).m.state = 1 := by simpa using g
   have hsO := eY iC s.pure.onces hltp
   rw [hget] at hsO
   refine ⟨⟨(k + 1, ps, os), by omega, ?_, by rw [hsO]; simpa [iC, hst] using hos⟩, ?_, by simp only; omega⟩
   · have e : evL dH 0 s.pure.sems ++ evL cR 0 (s.pure.onces.take (k + 1)) = evL dH 0 s.pure.sems ++ evL cR 0 (s.pure.onces.take k) ++ (s.onces[k]).m.waits.map fun x => (x, ⟨4, (k : Int), 0⟩) := by rw [hsucc]; simp [cR]
     show pm ps = dX _
     rw [e]; exact hps
   · exact aC [0, 1, 2, 3, 4] zw1 zw0 zw1 zw5 zw3 rfl rfl
 have hge : s.onces.length ≤ k := by simpa using g
 rw [List.take_of_length_le (by rw [len1]; exact hge)] at hps
 rw [List.take_of_length_le (by rw [len1]; exact hge)] at hos
 have len2 : s.pure.groups.length = s.groups.length := mlen _ _
 refine LoopW.mk ⟨{ p : Nat × List (Int × LH Waiting) × List (Int × LH Int) // p.1 ≤ s.groups.length ∧ pm p.2.1 = dX (evL dH 0 s.pure.sems ++ evL cR 0 s.pure.onces ++ evL cT 0 (s.pure.groups.take p.1)) ∧ pm p.2.2 = dX (cJ s.pure) },
   fun p => .mk [(1, .p 0 0), (4, .p 1 0), (5, .v (.map (some r2))), (6, .f 166 [(1, 0)]), (91, .v (s.h4.val s.groups.length)), (92, .v (.int .i64 (s.groups.length : Int))), (93, .v (.int .i64 (p.1.1 : Int)))] 2 0 [(0, 35, 9), (1, 173, 1)]
     [((0, 2), .v (s.h2.val s.sems.length)), ((0, 3), .v (s.h3.val s.onces.length)), ((0, 4), .v (s.h4.val s.groups.length)), ((0, 5), .v (s.h5.val s.barriers.length)), ((0, 6), .v (s.h6.val s.chans.length)), ((1, 0), .v (.map (some r)))] [fMW r p.1.2.1, fO (rW p.1.2.1), kD r2 rD p.1.2.2, fO (rI p.1.2.2), fR (aK s)],
   fun p => s.groups.length - p.1.1, ⟨(0, ps, os), Nat.zero_le _, by simpa [evL] using hps, hos⟩, ?_, ?_⟩
 · exact aC [0, 1, 2, 3, 4] zw2 zw0 zw2 zw5 zw4 rfl rfl
 rintro ⟨⟨k, ps, os⟩, hk, hps, hos⟩
 simp only at hk hps hos
 apply CaseB.mk <;> intro g
 · have hlt : k < s.groups.length := by simpa using g
   have hltp : k < s.pure.groups.length := by rw [len2]; exact hlt
   have hget : s.pure.groups[k] = (s.groups[k]).m := by simp [StateH.pure]
   have hpre := tD cT s.pure.groups hltp
   have hsucc := eY cT s.pure.groups hltp
   rw [hget] at hpre hsucc
   have hw := bD k _ hlt (by omega)
   refine aG cI aA rfl rfl rfl rfl rfl ⟨rfl, rfl⟩ (aL 4 rfl (.trans (.R_R (bL s)) (.ofR aX))) k rfl z43 (fun ad => ?_)
   refine LoopW.mk ⟨{ p : Nat × List (Int × LH Waiting) // p.1 ≤ (s.groups[k]).m.waits.length ∧ pm p.2 = dX (evL dH 0 s.pure.sems ++ evL cR 0 s.pure.onces ++ evL cT 0 (s.pure.groups.take k) ++ ((s.groups[k]).m.waits.take p.1).map fun x => (x, ⟨6, (k : Int), 0⟩)) },
     fun p => .mk [(1, .p 0 0), (4, .p 1 0), (5, .v (.map (some r2))), (6, .f 166 [(1, 0)]), (91, .v (s.h4.val s.groups.length)), (92, .v (.int .i64 (s.groups.length : Int))), (93, .v (.int .i64 (k : Int))), (15, .v (.int .i64 (k : Int))), (16, .p 2 0), (99, .v ((s.groups[k]).q.val (s.groups[k]).m.waits.length)), (100, .v (.int .i64 ((s.groups[k]).m.waits.length : Int))), (101, .v (.int .i64 (p.1.1 : Int)))] 3 0 ((2, 108, 2) :: [(0, 35, 9), (1, 173, 1)])
       [((0, 2), .v (s.h2.val s.sems.length)), ((0, 3), .v (s.h3.val s.onces.length)), ((0, 4), .v (s.h4.val s.groups.length)), ((0, 5), .v (s.h5.val s.barriers.length)), ((0, 6), .v (s.h6.val s.chans.length)), ((1, 0), .v (.map (some r)))] [fMW r p.1.2, fO (rW p.1.2), kD r2 rD os, fO (rI os), fR (aK s)],
     fun p => (s.groups[k]).m.waits.length - p.1.1, ⟨(0, ps), Nat.zero_le _, by simpa using hps⟩, ?_, ?_⟩
   · exact aC [0, 1, 2, 3, 4] zw2 zw0 zw2 zw5 zw4 rfl rfl
   rintro ⟨⟨j, ps⟩, hj, hps⟩
   simp only at hj hps
   apply CaseB.mk <;> intro g
   · have hlj : j < (s.groups[k]).m.waits.length := by simpa using g
     have hwj := bD j (s.groups[k]).m.waits.length hlj (by simp only [cT, List.length_map] at hpre; omega)
     have hbnd : ∀ t, ((cL ps t).getD LH.nil).xs.length ≤ 1048576 := fun t => by
       have h1 := sA hps t
       simp only [List.length_append, List.length_map, List.length_take] at h1
       have h2 : min j (s.groups[k]).m.waits.length ≤ (s.groups[k]).m.waits.length := Nat.min_le_right _ _
       simp only [cT, List.length_map] at hpre; omega
     refine aG aE aA rfl rfl rfl rfl rfl ⟨rfl, rfl⟩ (aL 4 rfl (.trans (.R_R (bL s)) (.ofR (eK _ _ k hlt)))) j rfl z43 (fun ad2 => ?_)
     refine eG _ [0, 1] (G := [_, _]) yL rfl rfl rfl rfl ⟨rfl, rfl⟩ rfl rfl ⟨rfl, rfl, trivial⟩ ⟨rfl, rfl, rfl, rfl, trivial⟩ (fun A w ga hga hW hblk => uM _ _ _ _ ga r ps w hblk (hW.atG [0, 1] (G := [_, _]) ⟨rfl, rfl, trivial⟩ rfl ⟨rfl, rfl, rfl, rfl, trivial⟩ [] (Fo := []) trivial rfl) (hW.atG_off z103 hga (ix := [0, 1]) (G := [_, _]) ⟨rfl, rfl, trivial⟩ (jx := []) (Fo := []) trivial) (hbnd _)) ?_
     rintro v cs L ⟨rfl, rfl, qs, hqs, rfl⟩
     refine ⟨⟨(j + 1, qs), by omega, ?_⟩, ?_, by simp only; omega⟩
     · rw [hqs, hps, ← jR, List.take_succ_eq_append_getElem hlj, List.map_append, List.map_cons, List.map_nil, List.append_assoc _ _ [_]]
     · exact aC [0, 1, 2, 3, 4] zw6 zw0 zw6 zw5 zw11 rfl rfl
   have hgj : (s.groups[k]).m.waits.length ≤ j := by simpa using g
   rw [List.take_of_length_le hgj] at hps
   refine ⟨⟨(k + 1, ps, os), by omega, ?_, hos⟩, ?_, by simp only; omega⟩
   · have e : evL dH 0 s.pure.sems ++ evL cR 0 s.pure.onces ++ evL cT 0 (s.pure.groups.take (k + 1)) = evL dH 0 s.pure.sems ++ evL cR 0 s.pure.onces ++ evL cT 0 (s.pure.groups.take k) ++ (s.groups[k]).m.waits.map fun x => (x, ⟨6, (k : Int), 0⟩) := by rw [hsucc]; simp [cT]
     show pm ps = dX _
     rw [e]; exact hps
   · exact aC [0, 1, 2, 3, 4] zw1 zw0 zw1 zw5 zw3 rfl rfl
 have hge : s.groups.length ≤ k := by simpa using g
 rw [List.take_of_length_le (by rw [len2]; exact hge)] at hps
 have len3 : s.pure.barriers.length = s.barriers.length := mlen _ _
 refine LoopW.mk ⟨{ p : Nat × List (Int × LH Waiting) × List (Int × LH Int) // p.1 ≤ s.barriers.length ∧ pm p.2.1 = dX (evL dH 0 s.pure.sems ++ evL cR 0 s.pure.onces ++ evL cT 0 s.pure.groups ++ evL cK 0 (s.pure.barriers.take p.1)) ∧ pm p.2.2 = dX (cJ s.pure) },
   fun p => .mk [(1, .p 0 0), (4, .p 1 0), (5, .v (.map (some r2))), (6, .f 166 [(1, 0)]), (112, .v (s.h5.val s.barriers.length)), (113, .v (.int .i64 (s.barriers.length : Int))), (114, .v (.int .i64 (p.1.1 : Int)))] 2 0 [(0, 35, 9), (1, 173, 1)]
     [((0, 2), .v (s.h2.val s.sems.length)), ((0, 3), .v (s.h3.val s.onces.length)), ((0, 4), .v (s.h4.val s.groups.length)), ((0, 5), .v (s.h5.val s.barriers.length)), ((0, 6), .v (s.h6.val s.chans.length)), ((1, 0), .v (.map (some r)))] [fMW r p.1.2.1, fO (rW p.1.2.1), kD r2 rD p.1.2.2, fO (rI p.1.2.2), fR (aK s)],
   fun p => s.barriers.length - p.1.1, ⟨(0, ps, os), Nat.zero_le _, by simpa [evL] using hps, hos⟩, ?_, ?_⟩
 · exact aC [0, 1, 2, 3, 4] zw2 zw0 zw2 zw5 zw4 rfl rfl
 rintro ⟨⟨k, ps, os⟩, hk, hps, hos⟩
 simp only at hk hps hos
 apply CaseB.mk <;> intro g
 · have hlt : k < s.barriers.length := by simpa using g
   have hltp : k < s.pure.barriers.length := by rw [len3]; exact hlt
   have hget : s.pure.barriers[k] = (s.barriers[k]).m := by simp [StateH.pure]
   have hpre := tD cK s.pure.barriers hltp
   have hsucc := eY cK s.pure.barriers hltp
   rw [hget] at hpre hsucc
   have hw := bD k _ hlt (by omega)
   refine aG cA aA rfl rfl rfl rfl rfl ⟨rfl, rfl⟩ (aL 4 rfl (.trans (.R_R (bJ s)) (.ofR aX))) k rfl z43 (fun ad => ?_)
   refine LoopW.mk ⟨{ p : Nat × List (Int × LH Waiting) // p.1 ≤ (s.barriers[k]).m.waits.length ∧ pm p.2 = dX (evL dH 0 s.pure.sems ++ evL cR 0 s.pure.onces ++ evL cT 0 s.pure.groups ++ evL cK 0 (s.pure.barriers.take k) ++ ((s.barriers[k]).m.waits.take p.1).map fun x => (x, ⟨7, (k : Int), 0⟩)) },
     fun p => .mk [(1, .p 0 0), (4, .p 1 0), (5, .v (.map (some r2))), (6, .f 166 [(1, 0)]), (112, .v (s.h5.val s.barriers.length)), (113, .v (.int .i64 (s.barriers.length : Int))), (114, .v (.int .i64 (k : Int))), (19, .v (.int .i64 (k : Int))), (20, .p 2 0), (120, .v ((s.barriers[k]).q.val (s.barriers[k]).m.waits.length)), (121, .v (.int .i64 ((s.barriers[k]).m.waits.length : Int))), (122, .v (.int .i64 (p.1.1 : Int)))] 3 0 ((2, 114, 3) :: [(0, 35, 9), (1, 173, 1)])
       [((0, 2), .v (s.h2.val s.sems.length)), ((0, 3), .v (s.h3.val s.onces.length)), ((0, 4), .v (s.h4.val s.groups.length)), ((0, 5), .v (s.h5.val s.barriers.length)), ((0, 6), .v (s.h6.val s.chans.length)), ((1, 0), .v (.map (some r)))] [fMW r p.1.2, fO (rW p.1.2), kD r2 rD os, fO (rI os), fR (aK s)],
     fun p => (s.barriers[k]).m.waits.length - p.1.1, ⟨(0, ps), Nat.zero_le _, by simpa using hps⟩, ?_, ?_⟩
   · exact aC [0, 1, 2, 3, 4] zw2 zw0 zw2 zw5 zw4 rfl rfl
   rintro ⟨⟨j, ps⟩, hj, hps⟩
   simp only at hj hps
   apply CaseB.mk <;> intro g
   · have hlj : j < (s.barriers[k]).m.waits.length := by simpa using g
     have hwj := bD j (s.barriers[k]).m.waits.length hlj (by simp only [cK, List.length_map] at hpre; omega)
     have hbnd : ∀ t, ((cL ps t).getD LH.nil).xs.length ≤ 1048576 := fun t => by
       have h1 := sA hps t
       simp only [List.length_append, List.length_map, List.length_take] at h1
       have h2 : min j (s.barriers[k]).m.waits.length ≤ (s.barriers[k]).m.waits.length := Nat.min_le_right _ _
       simp only [cK, List.length_map] at hpre; omega
     refine aG aE aA rfl rfl rfl rfl rfl ⟨rfl, rfl⟩ (aL 4 rfl (.trans (.R_R (bJ s)) (.ofR (dO _ _ k hlt)))) j rfl z43 (fun ad2 => ?_)
     refine eG _ [0, 1] (G := [_, _]) yL rfl rfl rfl rfl ⟨rfl, rfl⟩ rfl rfl ⟨rfl, rfl, trivial⟩ ⟨rfl, rfl, rfl, rfl, trivial⟩ (fun A w ga hga hW hblk => uM _ _ _ _ ga r ps w hblk (hW.atG [0, 1] (G := [_, _]) ⟨rfl, rfl, trivial⟩ rfl ⟨rfl, rfl, rfl, rfl, trivial⟩ [] (Fo := []) trivial rfl) (hW.atG_off z103 hga (ix := [0, 1]) (G := [_, _]) ⟨rfl, rfl, trivial⟩ (jx := []) (Fo := []) trivial) (hbnd _)) ?_
     rintro v cs L ⟨rfl, rfl, qs, hqs, rfl⟩
     refine ⟨⟨(j + 1, qs), by omega, ?_⟩, ?_, by simp only; omega⟩
     · rw [hqs, hps, ← jR, List.take_succ_eq_append_getElem hlj, List.map_append, List.map_cons, List.map_nil, List.append_assoc _ _ [_]]
     · exact aC [0, 1, 2, 3, 4] zw6 zw0 zw6 zw5 zw11 rfl rfl
   have hgj : (s.barriers[k]).m.waits.length ≤ j := by simpa using g
   rw [List.take_of_length_le hgj] at hps
   refine ⟨⟨(k + 1, ps, os), by omega, ?_, hos⟩, ?_, by simp only; omega⟩
   · have e : evL dH 0 s.pure.sems ++ evL cR 0 s.pure.onces ++ evL cT 0 s.pure.groups ++ evL cK 0 (s.pure.barriers.take (k + 1)) = evL dH 0 s.pure.sems ++ evL cR 0 s.pure.onces ++ evL cT 0 s.pure.groups ++ evL cK 0 (s.pure.barriers.take k) ++ (s.barriers[k]).m.waits.map fun x => (x, ⟨7, (k : Int), 0⟩) := by rw [hsucc]; simp [cK]
     show pm ps = dX _
     rw [e]; exact hps
   · exact aC [0, 1, 2, 3, 4] zw1 zw0 zw1 zw5 zw3 rfl rfl
 have hge : s.barriers.length ≤ k := by simpa using g
 rw [List.take_of_length_le (by rw [len3]; exact hge)] at hps
 have len4 : s.pure.chans.length = s.chans.length := mlen _ _
 refine LoopW.mk ⟨{ p : Nat × List (Int × LH Waiting) × List (Int × LH Int) // p.1 ≤ s.chans.length ∧ pm p.2.1 = dX (evL dH 0 s.pure.sems ++ evL cR 0 s.pure.onces ++ evL cT 0 s.pure.groups ++ evL cK 0 s.pure.barriers ++ evL dC 0 (s.pure.chans.take p.1)) ∧ pm p.2.2 = dX (cJ s.pure) },
   fun p => .mk [(1, .p 0 0), (4, .p 1 0), (5, .v (.map (some r2))), (6, .f 166 [(1, 0)]), (133, .v (s.h6.val s.chans.length)), (134, .v (.int .i64 (s.chans.length : Int))), (135, .v (.int .i64 (p.1.1 : Int)))] 2 0 [(0, 35, 9), (1, 173, 1)]
     [((0, 2), .v (s.h2.val s.sems.length)), ((0, 3), .v (s.h3.val s.onces.length)), ((0, 4), .v (s.h4.val s.groups.length)), ((0, 5), .v (s.h5.val s.barriers.length)), ((0, 6), .v (s.h6.val s.chans.length)), ((1, 0), .v (.map (some r)))] [fMW r p.1.2.1, fO (rW p.1.2.1), kD r2 rD p.1.2.2, fO (rI p.1.2.2), fR (aK s)],
   fun p => s.chans.length - p.1.1, ⟨(0, ps, os), Nat.zero_le _, by simpa [evL] using hps, hos⟩, ?_, ?_⟩
 · exact aC [0, 1, 2, 3, 4] zw2 zw0 zw2 zw5 zw4 rfl rfl
 rintro ⟨⟨k, ps, os⟩, hk, hps, hos⟩
 simp only at hk hps hos
 apply CaseB.mk <;> intro g
 · have hlt : k < s.chans.length := by simpa using g
   have hltp : k < s.pure.chans.length := by rw [len4]; exact hlt
   have hget : s.pure.chans[k] = (s.chans[k]).m := by simp [StateH.pure]
   have hpre := tD dC s.pure.chans hltp
   have hsucc := eY dC s.pure.chans hltp
   rw [hget] at hpre hsucc
   have hw := bD k _ hlt (by omega)
   refine aG cN aA rfl rfl rfl rfl rfl ⟨rfl, rfl⟩ (aL 4 rfl (.trans (.R_R (aQ s)) (.ofR aX))) k rfl z43 (fun ad => ?_)
   refine LoopW.mk ⟨{ p : Nat × List (Int × LH Waiting) // p.1 ≤ (s.chans[k]).m.senders.length ∧ pm p.2 = dX (evL dH 0 s.pure.sems ++ evL cR 0 s.pure.onces ++ evL cT 0 s.pure.groups ++ evL cK 0 s.pure.barriers ++ evL dC 0 (s.pure.chans.take k) ++ ((s.chans[k]).m.senders.take p.1).map fun x => (x.t, ⟨8, (k : Int), x.v⟩)) },
     fun p => .mk [(1, .p 0 0), (4, .p 1 0), (5, .v (.map (some r2))), (6, .f 166 [(1, 0)]), (133, .v (s.h6.val s.chans.length)), (134, .v (.int .i64 (s.chans.length : Int))), (135, .v (.int .i64 (k : Int))), (23, .v (.int .i64 (k : Int))), (24, .p 2 0), (141, .v ((s.chans[k]).q1.val (s.chans[k]).m.senders.length)), (142, .v (.int .i64 ((s.chans[k]).m.senders.length : Int))), (143, .v (.int .i64 (p.1.1 : Int)))] 3 0 ((2, 119, 5) :: [(0, 35, 9), (1, 173, 1)])
       [((0, 2), .v (s.h2.val s.sems.length)), ((0, 3), .v (s.h3.val s.onces.length)), ((0, 4), .v (s.h4.val s.groups.length)), ((0, 5), .v (s.h5.val s.barriers.length)), ((0, 6), .v (s.h6.val s.chans.length)), ((1, 0), .v (.map (some r))), ((2, 3), .v ((s.chans[k]).q2.val (s.chans[k]).m.getters.length))] [fMW r p.1.2, fO (rW p.1.2), kD r2 rD os, fO (rI os), fR (aK s)],
     fun p => (s.chans[k]).m.senders.length - p.1.1, ⟨(0, ps), Nat.zero_le _, by simpa using hps⟩, ?_, ?_⟩
   · exact aC [0, 1, 2, 3, 4] zw2 zw0 zw2 zw5 zw4 rfl rfl
   rintro ⟨⟨j, ps⟩, hj, hps⟩
   simp only at hj hps
   apply CaseB.mk <;> intro g
   · have hlj : j < (s.chans[k]).m.senders.length := by simpa using g
     have hwj := bD j (s.chans[k]).m.senders.length hlj z63
     have hbnd : ∀ t, ((cL ps t).getD LH.nil).xs.length ≤ 1048576 := fun t => by
       have h1 := sA hps t
       simp only [List.length_append, List.length_map, List.length_take] at h1
       have h2 : min j (s.chans[k]).m.senders.length ≤ (s.chans[k]).m.senders.length := Nat.min_le_right _ _
       simp only [dC, List.length_append, List.length_map] at hpre; omega
     refine aG gR aA rfl rfl rfl rfl rfl ⟨rfl, rfl⟩ (aL 4 rfl (.trans (.R_R (aQ s)) (.ofR (gJ _ _ k hlt)))) j rfl z43 (fun ad2 => ?_)
     refine eG _ [0, 1] (G := [_, _]) yL rfl rfl rfl rfl ⟨rfl, rfl⟩ rfl rfl ⟨rfl, rfl, trivial⟩ ⟨rfl, rfl, rfl, rfl, trivial⟩ (fun A w ga hga hW hblk => uM _ _ _ _ ga r ps w hblk (hW.atG [0, 1] (G := [_, _]) ⟨rfl, rfl, trivial⟩ rfl ⟨rfl, rfl, rfl, rfl, trivial⟩ [] (Fo := []) trivial rfl) (hW.atG_off z103 hga (ix := [0, 1]) (G := [_, _]) ⟨rfl, rfl, trivial⟩ (jx := []) (Fo := []) trivial) (hbnd _)) ?_
     rintro v cs L ⟨rfl, rfl, qs, hqs, rfl⟩
     refine ⟨⟨(j + 1, qs), by omega, ?_⟩, ?_, by simp only; omega⟩
     · rw [hqs, hps, ← jR, List.take_succ_eq_append_getElem hlj, List.map_append, List.map_cons, List.map_nil, List.append_assoc _ _ [_]]
     · exact aC [0, 1, 2, 3, 4] zw6 zw0 zw6 zw5 zw11 rfl rfl
   have hgj : (s.chans[k]).m.senders.length ≤ j := by simpa using g
   rw [List.take_of_length_le hgj] at hps
   refine LoopW.mk ⟨{ p : Nat × List (Int × LH Waiting) // p.1 ≤ (s.chans[k]).m.getters.length ∧ pm p.2 = dX ((evL dH 0 s.pure.sems ++ evL cR 0 s.pure.onces ++ evL cT 0 s.pure.groups ++ evL cK 0 s.pure.barriers ++ evL dC 0 (s.pure.chans.take k) ++ (s.chans[k]).m.senders.map fun x => (x.t, ⟨8, (k : Int), x.v⟩)) ++ ((s.chans[k]).m.getters.take p.1).map fun x => (x, ⟨9, (k : Int), 0⟩)) },
     fun p => .mk [(1, .p 0 0), (4, .p 1 0), (5, .v (.map (some r2))), (6, .f 166 [(1, 0)]), (133, .v (s.h6.val s.chans.length)), (134, .v (.int .i64 (s.chans.length : Int))), (135, .v (.int .i64 (k : Int))), (23, .v (.int .i64 (k : Int))), (24, .p 2 0), (156, .v ((s.chans[k]).q2.val (s.chans[k]).m.getters.length)), (157, .v (.int .i64 ((s.chans[k]).m.getters.length : Int))), (158, .v (.int .i64 (p.1.1 : Int)))] 3 0 ((2, 119, 5) :: [(0, 35, 9), (1, 173, 1)])
       [((0, 2), .v (s.h2.val s.sems.length)), ((0, 3), .v (s.h3.val s.onces.length)), ((0, 4), .v (s.h4.val s.groups.length)), ((0, 5), .v (s.h5.val s.barriers.length)), ((0, 6), .v (s.h6.val s.chans.length)), ((1, 0), .v (.map (some r)))] [fMW r p.1.2, fO (rW p.1.2), kD r2 rD os, fO (rI os), fR (aK s)],
     fun p => (s.chans[k]).m.getters.length - p.1.1, ⟨(0, ps), Nat.zero_le _, by simpa using hps⟩, ?_, ?_⟩
   · exact aC [0, 1, 2, 3, 4] zw2 zw0 zw2 zw5 zw4 rfl rfl
   rintro ⟨⟨j, ps⟩, hj, hps⟩
   simp only at hj hps
   apply CaseB.mk <;> intro g
   · have hlj : j < (s.chans[k]).m.getters.length := by simpa using g
     have hwj := bD j (s.chans[k]).m.getters.length hlj z63
     have hbnd : ∀ t, ((cL ps t).getD LH.nil).xs.length ≤ 1048576 := fun t => by
       have h1 := sA hps t
       simp only [List.length_append, List.length_map, List.length_take] at h1
       have h2 : min j (s.chans[k]).m.getters.length ≤ (s.chans[k]).m.getters.length := Nat.min_le_right _ _
       simp only [dC, List.length_append, List.length_map] at hpre; omega
     refine aG aE aA rfl rfl rfl rfl rfl ⟨rfl, rfl⟩ (aL 4 rfl (.trans (.R_R (aQ s)) (.ofR (hH _ _ k hlt)))) j rfl z43 (fun ad2 => ?_)
     refine eG _ [0, 1] (G := [_, _]) yL rfl rfl rfl rfl ⟨rfl, rfl⟩ rfl rfl ⟨rfl, rfl, trivial⟩ ⟨rfl, rfl, rfl, rfl, trivial⟩ (fun A w ga hga hW hblk => uM _ _ _ _ ga r ps w hblk (hW.atG [0, 1] (G := [_, _]) ⟨rfl, rfl, trivial⟩ rfl ⟨rfl, rfl, rfl, rfl, trivial⟩ [] (Fo := []) trivial rfl) (hW.atG_off z103 hga (ix := [0, 1]) (G := [_, _]) ⟨rfl, rfl, trivial⟩ (jx := []) (Fo := []) trivial) (hbnd _)) ?_
     rintro v cs L ⟨rfl, rfl, qs, hqs, rfl⟩
     refine ⟨⟨(j + 1, qs), by omega, ?_⟩, ?_, by simp only; omega⟩
     · rw [hqs, hps, ← jR, List.take_succ_eq_append_getElem hlj, List.map_append, List.map_cons, List.map_nil, List.append_assoc _ _ [_]]
     · exact aC [0, 1, 2, 3, 4] zw6 zw0 zw6 zw5 zw11 rfl rfl
   have hgj : (s.chans[k]).m.getters.length ≤ j := by simpa using g
   rw [List.take_of_length_le hgj] at hps
   refine ⟨⟨(k + 1, ps, os), by omega, ?_, hos⟩, ?_, by simp only; omega⟩
   · have e : evL dH 0 s.pure.sems ++ evL cR 0 s.pure.onces ++ evL cT 0 s.pure.groups ++ evL cK 0 s.pure.barriers ++ evL dC 0 (s.pure.chans.take (k + 1)) = (evL dH 0 s.pure.sems ++ evL cR 0 s.pure.onces ++ evL cT 0 s.pure.groups ++ evL cK 0 s.pure.barriers ++ evL dC 0 (s.pure.chans.take k) ++ (s.chans[k]).m.senders.map fun x => (x.t, ⟨8, (k : Int), x.v⟩)) ++ (s.chans[k]).m.getters.map fun x => (x, ⟨9, (k : Int), 0⟩) := by rw [hsucc]; simp [dC]
     show pm ps = dX _
     rw [e]; exact hps
   · exact aC [0, 1, 2, 3, 4] zw1 zw0 zw1 zw5 zw3 rfl rfl
 have hge : s.chans.length ≤ k := by simpa using g
 rw [List.take_of_length_le (by rw [len4]; exact hge)] at hps
 exact bG [0, 1, 2, 3] ⟨r, r2, ps, os, rfl, hps, hos, rfl⟩ z121 rfl ⟨rfl, rfl, rfl, rfl, trivial⟩ (fun _ => rfl)
def iL (xs : List Int) (lo hi : Int) : Prop := xs.length ≤ 3 ∧ ∀ x ∈ xs, lo ≤ x ∧ x ≤ hi
def Prog.shared (p : Prog) (k : Int) : Int := if k = 1 then 1 else if k = 2 ∨ k = 3 then p.sems.length else if k = 4 then 3 else if k = 5 ∨ k = 6 then p.groups.length else if k = 7 then p.barriers.length else p.rooms.length
def Prog.argOk (p : Prog) (o : Op) : Prop := if o.kind = 2 ∨ o.kind = 3 then 1 ≤ o.arg ∧ o.arg ≤ p.sems.getD o.on.toNat 0 else if o.kind = 5 then -9 ≤ o.arg ∧ o.arg ≤ 9 else if o.kind = 1 ∨ o.kind = 4 ∨ o.kind = 8 then aV o.arg = true else o.arg = 0
def OpOk (p : Prog) (o : Op) : Prop := 1 ≤ o.kind ∧ o.kind ≤ 10 ∧ 0 ≤ o.on ∧ o.on < p.shared o.kind ∧ p.argOk o
structure ProgOk (p : Prog) : Prop where
 sems : iL p.sems 1 9
 groups : iL p.groups 0 9
 barriers : iL p.barriers 1 6
 rooms : iL p.rooms 0 4
 n1 : 1 ≤ p.threads.length
 n4 : p.threads.length ≤ 4
 ops : ∀ t ∈ p.threads, t.length ≤ 8 ∧ ∀ o ∈ t, OpOk p o
theorem jT0 {p : Prog} {o : Op} (h : o.kind = 1) : OpOk p o ↔ o.on = 0 ∧ aV o.arg = true := by
 simp only [OpOk, Prog.shared, Prog.argOk, h]; by_cases hv : aV o.arg = true <;> simp [hv] <;> omega
theorem jU0 {p : Prog} {o : Op} (h : o.kind = 2 ∨ o.kind = 3) : OpOk p o ↔ (0 ≤ o.on ∧ o.on < p.sems.length) ∧ 1 ≤ o.arg ∧ o.arg ≤ p.sems.getD o.on.toNat 0 := by
 rcases h with h | h <;> simp only [OpOk, Prog.shared, Prog.argOk, h] <;> simp <;> omega
theorem jV0 {p : Prog} {o : Op} (h : o.kind = 4) : OpOk p o ↔ 0 ≤ o.on ∧ o.on ≤ 2 ∧ aV o.arg = true := by
 simp only [OpOk, Prog.shared, Prog.argOk, h]; by_cases hv : aV o.arg = true <;> simp [hv] <;> omega
theorem opOk5 {p : Prog} {o : Op} (h : o.kind = 5) : OpOk p o ↔ (0 ≤ o.on ∧ o.on < p.groups.length) ∧ -9 ≤ o.arg ∧ o.arg ≤ 9 := by
 simp only [OpOk, Prog.shared, Prog.argOk, h]; simp; omega
theorem nU0 {p : Prog} {o : Op} (h : o.kind = 6) : OpOk p o ↔ (0 ≤ o.on ∧ o.on < p.groups.length) ∧ o.arg = 0 := by
 simp only [OpOk, Prog.shared, Prog.argOk, h]; simp; omega
theorem nV0 {p : Prog} {o : Op} (h : o.kind = 7) : OpOk p o ↔ (0 ≤ o.on ∧ o.on < p.barriers.length) ∧ o.arg = 0 := by
 simp only [OpOk, Prog.shared, Prog.argOk, h]; simp; omega
theorem nW0 {p : Prog} {o : Op} (h : o.kind = 8) : OpOk p o ↔ (0 ≤ o.on ∧ o.on < p.rooms.length) ∧ aV o.arg = true := by
 simp only [OpOk, Prog.shared, Prog.argOk, h]; by_cases hv : aV o.arg = true <;> simp [hv] <;> omega
theorem jW0 {p : Prog} {o : Op} (h : o.kind = 9 ∨ o.kind = 10) : OpOk p o ↔ (0 ≤ o.on ∧ o.on < p.rooms.length) ∧ o.arg = 0 := by
 rcases h with h | h <;> simp only [OpOk, Prog.shared, Prog.argOk, h] <;> simp <;> omega
theorem opOk0 {p : Prog} {o : Op} (h : o.kind < 1 ∨ 10 < o.kind) : ¬ OpOk p o := fun e => by
 obtain ⟨h1, h2, _⟩ := e; omega
theorem tno {P : Prop} (h : ¬ P) : false = true ↔ P := ⟨fun e => z105, fun e => (h e).elim⟩
theorem jS {P : Prop} (h : P) : true = true ↔ P := ⟨fun _ => h, fun _ => rfl⟩
abbrev iD (w : World) (P : Prop) : Ending → World → Prop := Ret w fun v L => ∃ b : Bool, v = .bool b ∧ (b = true ↔ P) ∧ L = []
theorem cG0 {fv : FuncId} {cap : Array Value} {G : List Fct} {q : Int → Bool} (hcl : aD Tryz.prog fv = true) (hc : ∀ x w, At w [fB true G] → Calls Tryz.prog fv ([Value.int .i64 x] ++ cap.toList).toArray w (Ret w fun v L => v = .bool (q x) ∧ L = []))
   (i : Sl) (xs : List Int) (w : World) (h : At w [slo i aJ 1 xs, fB true G]) (hb : xs.length ≤ 4294967296) :
   Calls Tryz.prog 103 #[i.val xs.length, .func (.func fv) #[] cap] w (Ret w fun v L => ∃ k : Int, v = .int .i64 k ∧ (0 ≤ k ↔ ∃ x ∈ xs, q x = true) ∧ L = []) := by
 refine cB Tryz.func103 rfl aA w _ rfl _ rfl _ h ⟨rfl, rfl, rfl, rfl, trivial⟩ _ _ (by decide) ?_
 refine LoopW.mk ⟨{ k : Nat // k ≤ xs.length ∧ ∀ x ∈ xs.take k, ¬ q x = true },
   fun p => .mk [(0, .v (i.val xs.length)), (1, .v (.func (.func fv) #[] cap)), (7, .v (.int .i64 xs.length)), (8, .v (.int .i64 p.1))] 0 0 [] [] [slo i aJ 1 xs, fB true G],
   fun p => xs.length - p.1, ⟨0, Nat.zero_le _, by simp⟩, ?_, ?_⟩
 · exact aC [0, 1] zw2 zw0 zw2 zw5 zw4 rfl rfl
 · rintro ⟨k, hk, he⟩
   refine CaseB.mk (fun h => ?_) (fun h => ?_)
   · have hlt : k < xs.length := by simpa using h
     refine aG aE aA rfl rfl rfl rfl rfl ⟨rfl, rfl⟩ z35 k rfl z43 (fun ad => ?_)
     refine iJ _ hcl rfl rfl rfl rfl ⟨rfl, rfl⟩ (fun A w hW => hc _ w ⟨hW.get 1 rfl (.refl _), trivial⟩) ?_
     rintro v L ⟨rfl, rfl⟩
     refine CaseB.mk (fun h => ?_) (fun h => ?_)
     · exact aH ⟨(k : Int), rfl, ⟨fun _ => ⟨xs[k], List.getElem_mem hlt, h⟩, fun _ => Int.natCast_nonneg k⟩, rfl⟩ (fun _ => rfl)
     · have hw := lK k _ hlt hb
       refine ⟨⟨k + 1, by omega, fun x hx => ?_⟩, ?_, by simp; omega⟩
       · rw [List.take_succ_eq_append_getElem hlt] at hx
         rcases List.mem_append.1 hx with hx | hx
         · exact he x hx
         · simp at hx; subst hx; simpa using h
       · exact aC [0, 1] zw1 zw0 zw1 zw5 zw3 rfl rfl
   · have hge : xs.length ≤ k := by simpa using h
     rw [List.take_of_length_le hge] at he
     exact aH ⟨-1, rfl, ⟨fun h => by omega, fun ⟨x, hx, hq⟩ => (he x hx hq).elim⟩, rfl⟩ (fun _ => rfl)
theorem xC {fv : FuncId} {cap : Array Value} {G : List Fct} {q : Int → Bool} (hcl : aD Tryz.prog fv = true) (hc : ∀ x w, At w [fB true G] → Calls Tryz.prog fv ([Value.int .i64 x] ++ cap.toList).toArray w (Ret w fun v L => v = .bool (q x) ∧ L = []))
   (i : Sl) (xs : List Int) (w : World) (h : At w [slo i aJ 1 xs, fB true G]) (hb : xs.length ≤ 4294967296) :
   Calls Tryz.prog 42 #[i.val xs.length, .func (.func fv) #[] cap] w (iD w (∃ x ∈ xs, q x = true)) := by
 refine cB Tryz.func42 rfl aA w _ rfl _ rfl _ h ⟨rfl, rfl, rfl, rfl, trivial⟩ _ _ (by decide) ?_
 refine aB _ nF0 rfl rfl rfl rfl ⟨rfl, rfl⟩ (fun A w hW => cG0 hcl hc i xs w ⟨hW.get 0 rfl (.refl _), hW.get 1 rfl (.refl _), trivial⟩ hb) ?_
 rintro v L ⟨k, rfl, hk, rfl⟩
 exact aH ⟨_, rfl, by simpa using hk, rfl⟩ (fun _ => rfl)
abbrev tE (g : Nat) (t : Int) : Fct := vY g 3 [.int .i64 t]
theorem hC0 (x lo hi : Int) (g1 g2 : Nat) (w : World) (h : At w [fB true [tE g1 lo, tE g2 hi]]) :
   Calls Tryz.prog 192 #[.int .i64 x, .pointer (some ⟨g1, 0, none⟩), .pointer (some ⟨g2, 0, none⟩)] w (Ret w fun v L => v = .bool (decide (x < lo) || decide (hi < x)) ∧ L = []) := by
 have h' : At w [tE g1 lo, tE g2 hi] := ⟨jQ0 h.1 (by simp), jQ0 h.1 (by simp), trivial⟩
 refine gQ Tryz.func192 rfl aA w _ rfl _ rfl _ h' ⟨rfl, rfl, rfl, rfl, trivial⟩ _ _ _ (by decide) ?_
 refine mU 0 aA rfl rfl rfl rfl rfl ⟨rfl, rfl⟩ ?_
 apply CaseB.mk <;> intro g
 · refine aH ⟨?_, rfl⟩ (fun _ => rfl)
   have : x < lo := by simpa using g
   simp [this]
 · refine mU 1 aA rfl rfl rfl rfl rfl ⟨rfl, rfl⟩ ?_
   refine aH ⟨?_, rfl⟩ (fun _ => rfl)
   have : ¬ x < lo := by simpa using g
   simp [this]
theorem tF (i : Sl) (xs : List Int) (lo hi : Int) (w : World) (h : At w [slo i aJ 1 xs]) (hb : xs.length ≤ 4294967296) :
   Calls Tryz.prog 163 #[i.val xs.length, .int .i64 lo, .int .i64 hi] w (iD w (iL xs lo hi)) := by
 refine gQ Tryz.func163 rfl aA w _ rfl _ rfl _ h ⟨rfl, rfl, trivial⟩ _ _ _ (by decide) ?_
 apply CaseB.mk <;> intro g
 · have hl : xs.length ≤ 3 := by simp at g; omega
   refine aB _ cl42 rfl rfl rfl rfl ⟨rfl, rfl⟩ (fun A w hW => xC (fv := 192) (q := fun x => decide (x < lo) || decide (hi < x)) (G := [tE (A 0) lo, tE (A 1) hi]) cl192 (fun x w h => hC0 x lo hi _ _ w h) i xs w ⟨hW.get 0 rfl (.refl _), oR0 (hW.var rfl rfl) (hW.var rfl rfl), trivial⟩ hb) ?_
   rintro v L ⟨b, rfl, hbb, rfl⟩
   refine aH ⟨_, rfl, ?_, rfl⟩ (fun _ => rfl)
   simp only [Bool.not_eq_true', ← Bool.not_eq_true, hbb, iL]
   constructor
   · intro hn
     refine ⟨hl, fun x hx => ?_⟩
     rcases Int.lt_or_le x lo with h1 | h1
     · exact (hn ⟨x, hx, by simp [h1]⟩).elim
     · rcases Int.lt_or_le hi x with h2 | h2
       · exact (hn ⟨x, hx, by simp [h2]⟩).elim
       · exact ⟨h1, h2⟩
   · rintro ⟨_, hx⟩ ⟨x, hx', hq⟩
     have := hx x hx'
     simp at hq
     omega
 · have hl : ¬ xs.length ≤ 3 := by simp at g; omega
   exact aH ⟨_, rfl, tno fun h => hl h.1, rfl⟩ (fun _ => rfl)
theorem pZ (i : Sl) (n : Nat) (o : Op) (g : Nat) (w : World) (h : At w [vY g 65 (cOp o)]) :
   Calls Tryz.prog 193 #[i.val n, .pointer (some ⟨g, 0, none⟩)] w (iD w (0 ≤ o.on ∧ o.on < n)) := by
 refine cB Tryz.func193 rfl aA w _ rfl _ rfl _ h ⟨rfl, rfl, trivial⟩ _ _ (by decide) ?_
 refine yV aA rfl rfl rfl rfl ⟨rfl, rfl⟩ ?_
 refine xB 0 aA rfl rfl rfl rfl rfl ⟨rfl, rfl⟩ ?_
 refine CaseB.mk (fun g1 => ?_) (fun g1 => ?_)
 · refine yV aA rfl rfl rfl rfl ⟨rfl, rfl⟩ ?_
   refine xB 0 aA rfl rfl rfl rfl rfl ⟨rfl, rfl⟩ ?_
   refine aH ⟨_, rfl, ?_, rfl⟩ (fun _ => rfl)
   have : 0 ≤ o.on := by simpa using g1
   simp [this]
 · have : ¬ 0 ≤ o.on := by simpa using g1
   exact aH ⟨_, rfl, tno fun h => this h.1, rfl⟩ (fun _ => rfl)
structure Chan.Valid (m : Chan) : Prop where
 r0 : 0 ≤ m.room
 r1 : m.room ≤ 4
 it : (m.items.length : Int) ≤ m.room
 iv : ∀ x ∈ m.items, aV x = true
 sv : ∀ l ∈ m.senders, aV l.v = true
 di : bA m.threads = true
 se : m.senders ≠ [] → (m.items.length : Int) = m.room ∧ m.getters = [] ∧ m.closed = false
 ge : m.getters ≠ [] → m.items = [] ∧ m.closed = false
instance (m : Chan) : Decidable m.Valid :=
 decidable_of_iff ((0 ≤ m.room ∧ m.room ≤ 4 ∧ (m.items.length : Int) ≤ m.room) ∧ (∀ x ∈ m.items, aV x = true) ∧ (∀ l ∈ m.senders, aV l.v = true) ∧ bA m.threads = true ∧ (m.senders ≠ [] → (m.items.length : Int) = m.room ∧ m.getters = [] ∧ m.closed = false) ∧ (m.getters ≠ [] → m.items = [] ∧ m.closed = false))
   ⟨fun ⟨⟨a, b, c⟩, d, e, f, g, h⟩ => ⟨a, b, c, d, e, f, g, h⟩, fun ⟨a, b, c, d, e, f, g, h⟩ => ⟨⟨a, b, c⟩, d, e, f, g, h⟩⟩
def Chan.valid (m : Chan) : Bool := decide m.Valid
theorem Chan.invalid {m : Chan} (h : ¬ m.Valid) : Value.bool false = Value.bool m.valid := by rw [Chan.valid, decide_eq_false h]
theorem Chan.isvalid {m : Chan} (h : m.Valid) : Value.bool true = Value.bool m.valid := by rw [Chan.valid, decide_eq_true h]
theorem jH {α : Type} {p : α → Prop} {xs : List α} {k : Nat} (hk : k < xs.length) (h : ∀ x ∈ xs.take k, p x) (h1 : p xs[k]) : ∀ x ∈ xs.take (k + 1), p x := by
 intro x hx
 rw [List.take_succ_eq_append_getElem hk] at hx
 rcases List.mem_append.1 hx with hx | hx
 · exact h x hx
 · simp at hx; subst hx; exact h1
theorem eL {α : Type} {xs : List α} : decide ((xs.length : Int) > 0) = true ↔ xs ≠ [] := by
 cases xs <;> simp
theorem wC (m : Chan) (i s g : Sl) (w : World) (h : At w [slo i aJ 1 m.items, slo s fX 2 m.senders, slo g aJ 1 m.getters]) (hb : m.small) :
   Calls Tryz.prog 122 #[iZ m i s g] w (Ret w fun v L => v = .bool m.valid ∧ L = []) := by
 obtain ⟨b1, b2, b3⟩ := hb
 have bT : m.threads.length ≤ 8589934592 := by simp [Chan.threads]; omega
 have hno : ∀ {P : Prop}, ¬ P → (m.Valid → P) → ∀ A, gZ A [SV.lit false] = Value.bool m.valid := fun h1 h2 _ => Chan.invalid fun hv => h1 (h2 hv)
 refine bZ Tryz.func122 rfl aA w _ rfl _ rfl _ h z140 _ (by decide) ?_
 refine CaseB.mk (fun h1 => ?_) (fun h1 => ?_)
 · exact aH ⟨rfl, rfl⟩ (hno (by simp at h1; omega) Chan.Valid.r0)
 · have r0 : 0 ≤ m.room := by simp at h1; omega
   refine CaseB.mk (fun h2 => ?_) (fun h2 => ?_)
   · exact aH ⟨rfl, rfl⟩ (hno (by simp at h2; omega) Chan.Valid.r1)
   · have r1 : m.room ≤ 4 := by simp at h2; omega
     refine CaseB.mk (fun h3 => ?_) (fun h3 => ?_)
     · exact aH ⟨rfl, rfl⟩ (hno (by simp at h3; omega) Chan.Valid.it)
     · have it : (m.items.length : Int) ≤ m.room := by simp at h3; omega
       refine LoopW.mk ⟨{ k : Nat // k ≤ m.items.length ∧ ∀ x ∈ m.items.take k, aV x = true },
         fun p => .mk [(1, .p 0 0), (24, .v (i.val m.items.length)), (25, .v (.int .i64 m.items.length)), (26, .v (.int .i64 p.1))] 1 0 [(0, 119, 5)] [((0, 0), .v (.int .i64 m.room)), ((0, 1), .v (i.val m.items.length)), ((0, 2), .v (s.val m.senders.length)), ((0, 3), .v (g.val m.getters.length)), ((0, 4), .v (.bool m.closed))] [slo i aJ 1 m.items, slo s fX 2 m.senders, slo g aJ 1 m.getters],
         fun p => m.items.length - p.1, ⟨0, Nat.zero_le _, by simp⟩, ?_, ?_⟩
       · exact aC [0, 1, 2] zw2 zw0 zw2 zw5 zw4 rfl rfl
       · rintro ⟨k, hk, ha⟩
         refine CaseB.mk (fun h => ?_) (fun h => ?_)
         · have hlt : k < m.items.length := by simpa using h
           refine aG aE aA rfl rfl rfl rfl rfl ⟨rfl, rfl⟩ z35 k rfl z43 (fun ad => ?_)
           refine aB _ pT rfl rfl rfl rfl ⟨rfl, rfl⟩ (fun A w hW => gE _ w) ?_
           rintro v L ⟨rfl, rfl⟩
           refine CaseB.mk (fun h => ?_) (fun h => ?_)
           · exact aH ⟨rfl, rfl⟩ (hno z95 (fun hv => hv.iv _ (List.getElem_mem hlt)))
           · have hw := lK k _ hlt b1
             refine ⟨⟨k + 1, by omega, jH hlt ha z95⟩, ?_, by simp; omega⟩
             exact aC [0, 1, 2] zw1 zw0 zw1 zw5 zw3 rfl rfl
         · have hge : m.items.length ≤ k := by simpa using h
           rw [List.take_of_length_le hge] at ha
           refine LoopW.mk ⟨{ k : Nat // k ≤ m.senders.length ∧ ∀ x ∈ m.senders.take k, aV x.v = true },
             fun p => .mk [(1, .p 0 0), (35, .v (s.val m.senders.length)), (36, .v (.int .i64 m.senders.length)), (37, .v (.int .i64 p.1))] 1 0 [(0, 119, 5)] [((0, 0), .v (.int .i64 m.room)), ((0, 1), .v (i.val m.items.length)), ((0, 2), .v (s.val m.senders.length)), ((0, 3), .v (g.val m.getters.length)), ((0, 4), .v (.bool m.closed))] [slo i aJ 1 m.items, slo s fX 2 m.senders, slo g aJ 1 m.getters],
             fun p => m.senders.length - p.1, ⟨0, Nat.zero_le _, by simp⟩, ?_, ?_⟩
           · exact aC [0, 1, 2] zw2 zw0 zw2 zw5 zw4 rfl rfl
           · rintro ⟨k, hk, hs⟩
             refine CaseB.mk (fun h => ?_) (fun h => ?_)
             · have hlt : k < m.senders.length := by simpa using h
               refine aG gR aA rfl rfl rfl rfl rfl ⟨rfl, rfl⟩ z35 k rfl z43 (fun ad => ?_)
               refine aB _ pT rfl rfl rfl rfl ⟨rfl, rfl⟩ (fun A w hW => gE _ w) ?_
               rintro v L ⟨rfl, rfl⟩
               refine CaseB.mk (fun h => ?_) (fun h => ?_)
               · exact aH ⟨rfl, rfl⟩ (hno z95 (fun hv => hv.sv _ (List.getElem_mem hlt)))
               · have hw := lK k _ hlt b2
                 refine ⟨⟨k + 1, by omega, jH (p := fun l : Letter => aV l.v = true) hlt hs z95⟩, ?_, by simp; omega⟩
                 exact aC [0, 1, 2] zw1 zw0 zw1 zw5 zw3 rfl rfl
             · have hge : m.senders.length ≤ k := by simpa using h
               rw [List.take_of_length_le hge] at hs
               refine aB _ jD0 rfl rfl rfl rfl ⟨rfl, rfl⟩ (fun A w hW => uJ m i s g w ⟨z34, z34, z34, trivial⟩ ⟨b1, b2, b3⟩) ?_
               rintro v L ⟨y, rfl, rfl⟩
               refine aB _ bX0 rfl rfl rfl rfl ⟨rfl, rfl⟩ (fun A w hW => fK y m.threads w ⟨z34, trivial⟩ bT) ?_
               rintro v L ⟨rfl, rfl⟩
               refine CaseB.mk (fun h => ?_) (fun h => ?_)
               · exact aH ⟨rfl, rfl⟩ (hno z95 Chan.Valid.di)
               · have hd : bA m.threads = true := by simpa using h
                 have fin : (m.senders ≠ [] → (m.items.length : Int) = m.room ∧ m.getters = [] ∧ m.closed = false) → (m.getters ≠ [] → m.items = [] ∧ m.closed = false) → m.Valid := fun x y => ⟨r0, r1, it, ha, hs, hd, x, y⟩
                 refine CaseB.mk (fun q1 => ?_) (fun q1 => ?_)
                 · have hs1 : m.senders ≠ [] := eL.1 q1
                   refine CaseB.mk (fun q2 => ?_) (fun q2 => ?_)
                   · exact aH ⟨rfl, rfl⟩ (fun _ => Chan.invalid (fun hv => by have := (hv.se hs1).1; simp at q2; omega))
                   · have e2 : (m.items.length : Int) = m.room := by simpa using q2
                     refine CaseB.mk (fun q3 => ?_) (fun q3 => ?_)
                     · exact aH ⟨rfl, rfl⟩ (fun _ => Chan.invalid (fun hv => eL.1 q3 (hv.se hs1).2.1))
                     · have e3 : m.getters = [] := by
                         cases hg : m.getters with
                         | nil => rfl
                         | cons a r => rw [hg] at q3; simp at q3
                       refine CaseB.mk (fun q4 => ?_) (fun q4 => ?_)
                       · exact aH ⟨rfl, rfl⟩ (fun _ => Chan.invalid (fun hv => by have := (hv.se hs1).2.2; rw [q4] at this; cases this))
                       · have hS : m.senders ≠ [] → (m.items.length : Int) = m.room ∧ m.getters = [] ∧ m.closed = false := fun _ => ⟨e2, e3, q4⟩
                         refine CaseB.mk (fun q5 => ?_) (fun q5 => ?_)
                         · have hg : m.getters = [] := by simpa using q5
                           exact aH ⟨rfl, rfl⟩ (fun _ => Chan.isvalid (fin hS (fun hn => absurd hg hn)))
                         · have hg : m.getters ≠ [] := by simpa using q5
                           refine CaseB.mk (fun q6 => ?_) (fun q6 => ?_)
                           · have hi : m.items = [] := by simpa using q6
                             refine aH ⟨rfl, rfl⟩ (fun _ => ?_)
                             show Value.bool (!m.closed) = _
                             cases hc : m.closed with
                             | false => exact Chan.isvalid (fin hS (fun _ => ⟨hi, hc⟩))
                             | true => exact Chan.invalid (fun hv => by have := (hv.ge hg).2; rw [hc] at this; cases this)
                           · have hi : m.items ≠ [] := by simpa using q6
                             exact aH ⟨rfl, rfl⟩ (fun _ => Chan.invalid (fun hv => hi (hv.ge hg).1))
                 · have hs1 : m.senders = [] := by
                     cases hg : m.senders with
                     | nil => rfl
                     | cons a r => rw [hg] at q1; simp at q1
                   have hS : m.senders ≠ [] → (m.items.length : Int) = m.room ∧ m.getters = [] ∧ m.closed = false := fun hn => absurd hs1 hn
                   refine CaseB.mk (fun q5 => ?_) (fun q5 => ?_)
                   · have hg : m.getters = [] := by simpa using q5
                     exact aH ⟨rfl, rfl⟩ (fun _ => Chan.isvalid (fin hS (fun hn => absurd hg hn)))
                   · have hg : m.getters ≠ [] := by simpa using q5
                     refine CaseB.mk (fun q6 => ?_) (fun q6 => ?_)
                     · have hi : m.items = [] := by simpa using q6
                       refine aH ⟨rfl, rfl⟩ (fun _ => ?_)
                       show Value.bool (!m.closed) = _
                       cases hc : m.closed with
                       | false => exact Chan.isvalid (fin hS (fun _ => ⟨hi, hc⟩))
                       | true => exact Chan.invalid (fun hv => by have := (hv.ge hg).2; rw [hc] at this; cases this)
                     · have hi : m.items ≠ [] := by simpa using q6
                       exact aH ⟨rfl, rfl⟩ (fun _ => Chan.invalid (fun hv => hi (hv.ge hg).1))
theorem uN {xs ys : List Int} (h : xs.Nodup) (hs : ∀ x ∈ xs, x ∈ ys) : xs.length ≤ ys.length := by
 induction xs generalizing ys with
 | nil => simp
 | cons x r ih =>
   have hx := hs x (by simp)
   rw [List.nodup_cons] at h
   have := ih (ys := ys.erase x) h.2 (fun y hy => (List.mem_erase_of_ne (fun e => h.1 (by subst e; exact hy))).2 (hs y (by simp [hy])))
   rw [List.length_erase_of_mem hx] at this
   have : 0 < ys.length := List.length_pos_of_mem hx
   simp only [List.length_cons]
   omega
theorem cW {xs : List Int} (h : bA xs = true) : xs.length ≤ 6 := by
 simp only [bA, decide_eq_true_eq] at h
 have hs : ∀ x ∈ xs, x ∈ ([0, 1, 2, 3, 4, 5] : List Int) := fun x hx => by
   have := h.2 x hx
   simp [aZ] at this
   simp
   omega
 exact uN h.1 hs
theorem yB {xs : List Int} (h : (xs.take 7).Nodup ∧ ∀ x ∈ xs.take 7, aZ x = true) : xs.length ≤ 6 := by
 have hd : bA (xs.take 7) = true := by simpa [bA] using h
 have := cW hd
 simp at this
 omega
theorem qU (i : Sl) (xs : List Int) (w : World) (h : At w [slo i aJ 1 xs]) (hb : xs.length ≤ 8589934592) :
   Calls Tryz.prog 194 #[i.val xs.length] w (Ret w fun v L => v = .bool (bA xs) ∧ L = []) := by
 refine bZ Tryz.func194 rfl aA w _ rfl _ rfl _ h ⟨rfl, rfl, trivial⟩ _ (by decide) ?_
 refine LoopW.mk ⟨{ k : Nat // k ≤ xs.length ∧ k ≤ 7 ∧ (xs.take k).Nodup ∧ ∀ x ∈ xs.take k, aZ x = true },
   fun p => .mk [(0, .v (i.val xs.length)), (3, .v (.int .i64 p.1))] 0 0 [] [] [slo i aJ 1 xs],
   fun p => xs.length - p.1, ⟨0, Nat.zero_le _, by omega, by simp, by simp⟩, ?_, ?_⟩
 · exact aC [0] zw2 zw0 zw2 zw5 zw4 rfl rfl
 · rintro ⟨k, hk, hk7, hn, ha⟩
   have hfin : ¬ (k < xs.length ∧ k ≤ 6) → decide ((xs.length : Int) ≤ 6) = bA xs := by
     intro hc
     rcases Nat.lt_or_ge k xs.length with h1 | h1
     · have e : k = 7 := by omega
       subst e
       have := yB ⟨hn, ha⟩
       omega
     · rw [List.take_of_length_le h1] at hn ha
       have hd : bA xs = true := by simp only [bA, decide_eq_true_eq]; exact ⟨hn, ha⟩
       have := cW hd
       rw [hd, decide_eq_true_eq]
       omega
   refine CaseB.mk (fun h => ?_) (fun h => ?_)
   · have hlt : k < xs.length := by simpa using h
     refine CaseB.mk (fun h => ?_) (fun h => ?_)
     · have h6 : k ≤ 6 := by simp at h; omega
       refine aF aA z102 z102 z102 200 [] [0] [_] trivial trivial ⟨rfl, trivial⟩ rfl ?_
       refine bO (ti := aU tab) aE aA rfl rfl rfl rfl rfl ⟨rfl, rfl⟩ z35 k rfl z43 (fun ad => ?_)
       refine bN _ rK rfl rfl rfl rfl ⟨rfl, rfl⟩ (fun A w hW => fY _ w) ?_
       rintro v L ⟨rfl, rfl⟩
       refine CaseB.mk (fun h => ?_) (fun h => ?_)
       · have h1 : aZ xs[k] = false := by simpa using h
         exact aH ⟨congrArg Value.bool (nG hlt (.inl h1)).symm, rfl⟩ (fun _ => rfl)
       · have h1 : aZ xs[k] = true := by simpa using h
         refine jL0 (ti := aU tab) aA rfl rfl rfl rfl ⟨rfl, rfl⟩ rfl rfl z35 (0) (k) ((xs.take k)).length rfl rfl z43 z43 z43 ?_
         refine bO (ti := aU tab) aE aA rfl rfl rfl rfl rfl ⟨rfl, rfl⟩ z35 k rfl z43 (fun ad => ?_)
         refine bN _ uG rfl rfl rfl rfl ⟨rfl, rfl⟩ (fun A w hW => kW (i.cut 0 1) (xs.take k) _ w ⟨cB0 aE 0 k (by omega) (by omega) (by simp) (hW.rd 0 rfl), trivial⟩ z101) ?_
         rintro v L ⟨rfl, rfl⟩
         refine CaseB.mk (fun h => ?_) (fun h => ?_)
         · have hm : xs[k] ∈ xs.take k := (eR _ _).1 z95
           exact aH ⟨congrArg Value.bool (nG hlt (.inr hm)).symm, rfl⟩ (fun _ => rfl)
         · have hm : ¬ xs[k] ∈ xs.take k := fun hm => by have := (eR _ _).2 hm; simp at h; omega
           have hT : xs.take (k + 1) = xs.take k ++ [xs[k]] := List.take_succ_eq_append_getElem hlt
           have hw := dZ0 k _ hlt hb
           refine ⟨⟨k + 1, by omega, by omega, (lW hlt).2 ⟨hn, hm⟩, jH hlt ha h1⟩, ?_, by simp; omega⟩
           exact aC [0] zw1 zw0 zw1 zw5 zw3 rfl rfl
     · have h6 : ¬ k ≤ 6 := by simp at h; omega
       exact aH ⟨congrArg Value.bool (hfin (fun h => h6 h.2)), rfl⟩ (fun _ => rfl)
   · have hlt : ¬ k < xs.length := by simpa using h
     exact aH ⟨congrArg Value.bool (hfin (fun h => hlt h.1)), rfl⟩ (fun _ => rfl)
theorem zB (m : Chan) (i s g : Sl) (t : Int) (w : World) (h : At w [slo i aJ 1 m.items, slo s fX 2 m.senders, slo g aJ 1 m.getters]) (hb : m.small) (h7 : m.senders.length ≤ 7) :
   Calls Tryz.prog 195 #[iZ m i s g, .int .i64 t] w (Ret w fun v L => v = .bool (decide (t ∈ m.threads)) ∧ L = []) := by
 obtain ⟨b1, b2, b3⟩ := hb
 have e7 : m.senders.take 7 = m.senders := List.take_of_length_le h7
 refine cB Tryz.func195 rfl aA w _ rfl _ rfl _ h z140 _ _ (by decide) ?_
 refine aB _ fR0 rfl rfl rfl rfl ⟨rfl, rfl⟩ (fun A w hW => nH s m.senders w ⟨z34, trivial⟩ b2) ?_
 rw [e7]
 rintro v L ⟨y, rfl, rfl⟩
 refine aB _ uG rfl rfl rfl rfl ⟨rfl, rfl⟩ (fun A w hW => kW y (m.senders.map Letter.t) t w ⟨z34, trivial⟩ z101) ?_
 rintro v L ⟨rfl, rfl⟩
 refine CaseB.mk (fun h => ?_) (fun h => ?_)
 · have hm : t ∈ m.senders.map Letter.t := (eR _ _).1 z95
   refine aH ⟨?_, rfl⟩ (fun _ => rfl)
   simp [Chan.threads]
   exact .inl (by simpa using hm)
 · have hm : ¬ t ∈ m.senders.map Letter.t := fun hm => by have := (eR _ _).2 hm; simp at h; omega
   refine aB _ uG rfl rfl rfl rfl ⟨rfl, rfl⟩ (fun A w hW => kW g m.getters t w ⟨z34, trivial⟩ b3) ?_
   rintro v L ⟨rfl, rfl⟩
   refine aH ⟨?_, rfl⟩ (fun _ => rfl)
   have e : (t ∈ m.threads) ↔ t ∈ m.getters := by simp only [Chan.threads, List.mem_append]; exact ⟨fun h => h.resolve_left hm, .inr⟩
   simp [e, eR]
structure SemOk (m : Sem) : Prop where
 l1 : 1 ≤ m.limit
 l9 : m.limit ≤ 9
 f0 : 0 ≤ m.free
 fl : m.free ≤ m.limit
 q6 : m.queue.length ≤ 6
 cnt : ∀ w ∈ m.queue, 1 ≤ w.n ∧ w.n ≤ m.limit
 dis : bA (m.queue.map (·.t)) = true
 hd : ∀ w, m.queue[0]? = some w → m.free < w.n
def eI (m : Once) : Prop := (m.state = 0 ∧ m.owner = 0 ∧ m.value = 0 ∧ m.waits = []) ∨ (m.state = 1 ∧ aZ m.owner = true ∧ m.value = 0 ∧ bA m.waits = true ∧ m.owner ∉ m.waits) ∨ (m.state = 2 ∧ aZ m.owner = true ∧ aV m.value = true ∧ m.waits = [])
def fD (m : Group) : Prop := aV m.count = true ∧ bA m.waits = true ∧ (0 < m.count ∨ m.waits = [])
def dP (m : Barrier) : Prop := 1 ≤ m.parties ∧ m.parties ≤ 6 ∧ 0 ≤ m.round ∧ m.round ≤ 9999 ∧ (m.waits.length : Int) < m.parties ∧ bA m.waits = true
theorem aQ0 {m : Once} (h : m.state = 0) : eI m ↔ m.owner = 0 ∧ m.value = 0 ∧ m.waits = [] := by simp [eI, h]
theorem qV {m : Once} (h : m.state = 1) : eI m ↔ aZ m.owner = true ∧ m.value = 0 ∧ bA m.waits = true ∧ m.owner ∉ m.waits := by simp [eI, h]
theorem aR0 {m : Once} (h : m.state = 2) : eI m ↔ aZ m.owner = true ∧ aV m.value = true ∧ m.waits = [] := by simp [eI, h]
theorem gD0 {m : Once} (h0 : ¬ m.state = 0) (h1 : ¬ m.state = 1) (h2 : ¬ m.state = 2) : ¬ eI m := by simp [eI, h0, h1, h2]
theorem qA (m : Once) (q : Sl) (w : World) (h : At w [slo q aJ 1 m.waits]) (hb : m.waits.length ≤ 1048576) :
   Calls Tryz.prog 123 #[jX m q] w (iD w (eI m)) := by
 refine bZ Tryz.func123 rfl aA w _ rfl _ rfl _ h ⟨rfl, rfl, trivial⟩ _ (by decide) ?_
 refine CaseB.mk (fun k => ?_) (fun k0 => ?_)
 · have hx := aQ0 (m := m) z97
   apply CaseB.mk <;> intro g
   rotate_left
   · have q : ¬ (m.owner = 0) := by simpa using g
     exact aH ⟨_, rfl, tno fun e => q (hx.1 e).1, rfl⟩ (fun _ => rfl)
   have c1 : m.owner = 0 := by simpa using g
   apply CaseB.mk <;> intro g
   rotate_left
   · have q : ¬ (m.value = 0) := by simpa using g
     exact aH ⟨_, rfl, tno fun e => q (hx.1 e).2.1, rfl⟩ (fun _ => rfl)
   have c2 : m.value = 0 := by simpa using g
   exact aH ⟨_, rfl, by rw [hx]; simp [c1, c2], rfl⟩ (fun _ => rfl)
 refine CaseB.mk (fun k => ?_) (fun k1 => ?_)
 · have hx := qV (m := m) z97
   refine aB _ sO rfl rfl rfl rfl ⟨rfl, rfl⟩ (fun A w hW => gS _ w) ?_
   rintro v L ⟨rfl, rfl⟩
   apply CaseB.mk <;> intro g
   rotate_left
   · have q : ¬ (aZ m.owner = true) := by simpa using g
     exact aH ⟨_, rfl, tno fun e => q (hx.1 e).1, rfl⟩ (fun _ => rfl)
   have c1 : aZ m.owner = true := g
   apply CaseB.mk <;> intro g
   rotate_left
   · have q : ¬ (m.value = 0) := by simpa using g
     exact aH ⟨_, rfl, tno fun e => q (hx.1 e).2.1, rfl⟩ (fun _ => rfl)
   have c2 : m.value = 0 := by simpa using g
   apply CaseB.mk <;> intro g
   rotate_left
   · have q : ¬ (m.waits.length ≤ 6) := by have g' := of_decide_eq_false g; omega
     exact aH ⟨_, rfl, tno fun e => q (cW (hx.1 e).2.2.1), rfl⟩ (fun _ => rfl)
   have c6 : m.waits.length ≤ 6 := by have g' := of_decide_eq_true g; omega
   refine aB _ bX0 rfl rfl rfl rfl ⟨rfl, rfl⟩ (fun A w hW => fK q m.waits w ⟨z34, trivial⟩ (by omega)) ?_
   rintro v L ⟨rfl, rfl⟩
   apply CaseB.mk <;> intro g
   rotate_left
   · have q : ¬ (bA m.waits = true) := by simpa using g
     exact aH ⟨_, rfl, tno fun e => q (hx.1 e).2.2.1, rfl⟩ (fun _ => rfl)
   have c3 : bA m.waits = true := g
   refine aB _ dU0 rfl rfl rfl rfl ⟨rfl, rfl⟩ (fun A w hW => jM q m.waits m.owner w ⟨z34, trivial⟩ (by omega)) ?_
   rintro v L ⟨rfl, rfl⟩
   exact aH ⟨_, rfl, by rw [hx]; simp [c1, c2, c3], rfl⟩ (fun _ => rfl)
 refine CaseB.mk (fun k => ?_) (fun k2 => ?_)
 · have hx := aR0 (m := m) z97
   refine aB _ sO rfl rfl rfl rfl ⟨rfl, rfl⟩ (fun A w hW => gS _ w) ?_
   rintro v L ⟨rfl, rfl⟩
   apply CaseB.mk <;> intro g
   rotate_left
   · have q : ¬ (aZ m.owner = true) := by simpa using g
     exact aH ⟨_, rfl, tno fun e => q (hx.1 e).1, rfl⟩ (fun _ => rfl)
   have c1 : aZ m.owner = true := g
   refine aB _ pT rfl rfl rfl rfl ⟨rfl, rfl⟩ (fun A w hW => gE _ w) ?_
   rintro v L ⟨rfl, rfl⟩
   apply CaseB.mk <;> intro g
   rotate_left
   · have q : ¬ (aV m.value = true) := by simpa using g
     exact aH ⟨_, rfl, tno fun e => q (hx.1 e).2.1, rfl⟩ (fun _ => rfl)
   have c2 : aV m.value = true := g
   exact aH ⟨_, rfl, by rw [hx]; simp [c1, c2], rfl⟩ (fun _ => rfl)
 exact aH ⟨_, rfl, tno (gD0 (by simpa using k0) (by simpa using k1) (by simpa using k2)), rfl⟩ (fun _ => rfl)
theorem oV (m : Group) (q : Sl) (w : World) (h : At w [slo q aJ 1 m.waits]) (hb : m.waits.length ≤ 1048576) :
   Calls Tryz.prog 120 #[kN m q] w (iD w (fD m)) := by
 refine bZ Tryz.func120 rfl aA w _ rfl _ rfl _ h ⟨rfl, rfl, trivial⟩ _ (by decide) ?_
 refine aB _ pT rfl rfl rfl rfl ⟨rfl, rfl⟩ (fun A w hW => gE _ w) ?_
 rintro v L ⟨rfl, rfl⟩
 apply CaseB.mk <;> intro g
 rotate_left
 · have q : ¬ (aV m.count = true) := by simpa using g
   exact aH ⟨_, rfl, tno fun e => q e.1, rfl⟩ (fun _ => rfl)
 have c1 : aV m.count = true := g
 apply CaseB.mk <;> intro g
 rotate_left
 · have q : ¬ (m.waits.length ≤ 6) := by have g' := of_decide_eq_false g; omega
   exact aH ⟨_, rfl, tno fun e => q (cW e.2.1), rfl⟩ (fun _ => rfl)
 have c6 : m.waits.length ≤ 6 := by have g' := of_decide_eq_true g; omega
 refine aB _ bX0 rfl rfl rfl rfl ⟨rfl, rfl⟩ (fun A w hW => fK q m.waits w ⟨z34, trivial⟩ (by omega)) ?_
 rintro v L ⟨rfl, rfl⟩
 apply CaseB.mk <;> intro g
 rotate_left
 · have q : ¬ (bA m.waits = true) := by simpa using g
   exact aH ⟨_, rfl, tno fun e => q e.2.1, rfl⟩ (fun _ => rfl)
 have c2 : bA m.waits = true := g
 apply CaseB.mk <;> intro g
 · have c3 : 0 < m.count := by have g' := of_decide_eq_true g; omega
   exact aH ⟨_, rfl, jS ⟨c1, c2, .inl c3⟩, rfl⟩ (fun _ => rfl)
 · have c3 : ¬ 0 < m.count := by have g' := of_decide_eq_false g; omega
   exact aH ⟨_, rfl, by simp [fD, c1, c2, c3], rfl⟩ (fun _ => rfl)
theorem qB (m : Barrier) (q : Sl) (w : World) (h : At w [slo q aJ 1 m.waits]) (hb : m.waits.length ≤ 1048576) :
   Calls Tryz.prog 121 #[jE m q] w (iD w (dP m)) := by
 refine bZ Tryz.func121 rfl aA w _ rfl _ rfl _ h ⟨rfl, rfl, trivial⟩ _ (by decide) ?_
 apply CaseB.mk <;> intro g
 rotate_left
 · have q : ¬ (1 ≤ m.parties) := by have g' := of_decide_eq_false g; omega
   exact aH ⟨_, rfl, tno fun e => q e.1, rfl⟩ (fun _ => rfl)
 have c1 : 1 ≤ m.parties := by have g' := of_decide_eq_true g; omega
 apply CaseB.mk <;> intro g
 rotate_left
 · have q : ¬ (m.parties ≤ 6) := by have g' := of_decide_eq_false g; omega
   exact aH ⟨_, rfl, tno fun e => q e.2.1, rfl⟩ (fun _ => rfl)
 have c2 : m.parties ≤ 6 := by have g' := of_decide_eq_true g; omega
 apply CaseB.mk <;> intro g
 rotate_left
 · have q : ¬ (0 ≤ m.round) := by have g' := of_decide_eq_false g; omega
   exact aH ⟨_, rfl, tno fun e => q e.2.2.1, rfl⟩ (fun _ => rfl)
 have c3 : 0 ≤ m.round := by have g' := of_decide_eq_true g; omega
 apply CaseB.mk <;> intro g
 rotate_left
 · have q : ¬ (m.round ≤ 9999) := by have g' := of_decide_eq_false g; omega
   exact aH ⟨_, rfl, tno fun e => q e.2.2.2.1, rfl⟩ (fun _ => rfl)
 have c4 : m.round ≤ 9999 := by have g' := of_decide_eq_true g; omega
 apply CaseB.mk <;> intro g
 rotate_left
 · have q : ¬ ((m.waits.length : Int) < m.parties) := by have g' := of_decide_eq_false g; omega
   exact aH ⟨_, rfl, tno fun e => q e.2.2.2.2.1, rfl⟩ (fun _ => rfl)
 have c5 : (m.waits.length : Int) < m.parties := by have g' := of_decide_eq_true g; omega
 refine aB _ bX0 rfl rfl rfl rfl ⟨rfl, rfl⟩ (fun A w hW => fK q m.waits w ⟨z34, trivial⟩ (by omega)) ?_
 rintro v L ⟨rfl, rfl⟩
 exact aH ⟨_, rfl, by simp [dP, c1, c2, c3, c4, c5], rfl⟩ (fun _ => rfl)
theorem sB (m : Sem) (q : Sl) (w : World) (h : At w [slo q bV 2 m.queue]) (hb : m.queue.length ≤ 1048576) :
   Calls Tryz.prog 119 #[oC m q] w (iD w (SemOk m)) := by
 refine bZ Tryz.func119 rfl aA w _ rfl _ rfl _ h ⟨rfl, rfl, trivial⟩ _ (by decide) ?_
 apply CaseB.mk <;> intro g
 · have q : ¬ (1 ≤ m.limit) := by have g' := of_decide_eq_true g; omega
   exact aH ⟨_, rfl, tno fun e => q e.l1, rfl⟩ (fun _ => rfl)
 have c1 : 1 ≤ m.limit := by have g' := of_decide_eq_false g; omega
 apply CaseB.mk <;> intro g
 · have q : ¬ (m.limit ≤ 9) := by have g' := of_decide_eq_true g; omega
   exact aH ⟨_, rfl, tno fun e => q e.l9, rfl⟩ (fun _ => rfl)
 have c2 : m.limit ≤ 9 := by have g' := of_decide_eq_false g; omega
 apply CaseB.mk <;> intro g
 · have q : ¬ (0 ≤ m.free) := by have g' := of_decide_eq_true g; omega
   exact aH ⟨_, rfl, tno fun e => q e.f0, rfl⟩ (fun _ => rfl)
 have c3 : 0 ≤ m.free := by have g' := of_decide_eq_false g; omega
 apply CaseB.mk <;> intro g
 · have q : ¬ (m.free ≤ m.limit) := by have g' := of_decide_eq_true g; omega
   exact aH ⟨_, rfl, tno fun e => q e.fl, rfl⟩ (fun _ => rfl)
 have c4 : m.free ≤ m.limit := by have g' := of_decide_eq_false g; omega
 apply CaseB.mk <;> intro g
 · have q : ¬ (m.queue.length ≤ 6) := by have g' := of_decide_eq_true g; omega
   exact aH ⟨_, rfl, tno fun e => q e.q6, rfl⟩ (fun _ => rfl)
 have c5 : m.queue.length ≤ 6 := by have g' := of_decide_eq_false g; omega
 refine LoopW.mk ⟨{ p : Nat × Sl // p.1 ≤ m.queue.length ∧ ∀ w ∈ m.queue.take p.1, 1 ≤ w.n ∧ w.n ≤ m.limit },
   fun p => .mk [(1, .p 0 0), (3, .v (p.1.2.val ((m.queue.map (·.t)).take p.1.1).length)), (33, .v (q.val m.queue.length)), (34, .v (.int .i64 (m.queue.length : Int))), (35, .v (.int .i64 (p.1.1 : Int)))] 1 0 [(0, 95, 3)] [((0, 0), .v (.int .i64 m.free)), ((0, 1), .v (.int .i64 m.limit)), ((0, 2), .v (q.val m.queue.length))] [own p.1.2 3 aJ 1 ((m.queue.map (·.t)).take p.1.1), slo q bV 2 m.queue],
   fun p => m.queue.length - p.1.1, ⟨(0, ⟨none, 0⟩), Nat.zero_le _, by simp⟩, ?_, ?_⟩
 · exact aC [99, 0] zw2 zw0 zw2 zw5 zw4 rfl rfl
 rintro ⟨⟨k, a⟩, hk, hinv⟩
 simp only at hk hinv
 apply CaseB.mk <;> intro g
 · have hlt : k < m.queue.length := by simpa using g
   have hw := lK k _ hlt (by omega)
   refine aG cH aA rfl rfl rfl rfl rfl ⟨rfl, rfl⟩ (iE 1 rfl) k rfl z43 (fun ad => ?_)
   apply CaseB.mk <;> intro g
   · have q : ¬ (1 ≤ (m.queue[k]).n) := by have g' := of_decide_eq_true g; omega
     exact aH ⟨_, rfl, tno fun e => q (e.cnt _ (List.getElem_mem hlt)).1, rfl⟩ (fun _ => rfl)
   have d1 : 1 ≤ (m.queue[k]).n := by have g' := of_decide_eq_false g; omega
   apply CaseB.mk <;> intro g
   · have q : ¬ ((m.queue[k]).n ≤ m.limit) := by have g' := of_decide_eq_true g; omega
     exact aH ⟨_, rfl, tno fun e => q (e.cnt _ (List.getElem_mem hlt)).2, rfl⟩ (fun _ => rfl)
   have d2 : (m.queue[k]).n ≤ m.limit := by have g' := of_decide_eq_false g; omega
   refine AllSl.mk fun u => ?_
   refine bQ aE 1 aA (ys := [(m.queue[k]).t]) rfl rfl rfl rfl rfl rfl rfl rfl rfl (by decide) ⟨rfl, rfl⟩ rfl z35 z43 z43 (fun a2 => ?_)
   rw [aR hlt rfl rfl]
   refine ⟨⟨(k + 1, a2), by omega, fun x hx => ?_⟩, ?_, by simp only; omega⟩
   · rw [List.take_succ_eq_append_getElem hlt] at hx
     rcases List.mem_append.1 hx with hx | hx
     · exact hinv x hx
     · simp at hx; subst hx; exact ⟨d1, d2⟩
   · exact aC [0, 2] zw1 zw0 zw1 zw5 zw3 rfl rfl
 have hge : m.queue.length ≤ k := by simpa using g
 rw [List.take_of_length_le hge] at hinv
 have eT : (m.queue.map (·.t)).take k = m.queue.map (·.t) := List.take_of_length_le z91
 simp only [eT]
 refine aF aA z102 z102 z102 200 [((0, 0), .v (.int .i64 m.free)), ((0, 1), .v (.int .i64 m.limit)), ((0, 2), .v (q.val m.queue.length))] [1] [_] z129 z141 ⟨rfl, trivial⟩ rfl ?_
 refine bN _ bX0 rfl rfl rfl rfl ⟨rfl, rfl⟩ (fun A w hW => fK a _ w ⟨hW.rdOwn 0 rfl, trivial⟩ z101) ?_
 rintro v L ⟨rfl, rfl⟩
 apply CaseB.mk <;> intro g
 rotate_left
 · have q : ¬ (bA (m.queue.map (·.t)) = true) := by simpa using g
   exact aH ⟨_, rfl, tno fun e => q e.dis, rfl⟩ (fun _ => rfl)
 have c6 : bA (m.queue.map (·.t)) = true := g
 apply CaseB.mk <;> intro g
 · have c7 : m.queue = [] := by simpa using g
   exact aH ⟨_, rfl, jS ⟨c1, c2, c3, c4, c5, hinv, c6, by rw [c7]; simp⟩, rfl⟩ (fun _ => rfl)
 have c7 : 0 < m.queue.length := by have g' : ¬ m.queue = [] := by simpa using g
                                    exact List.length_pos_iff.2 g'
 refine bO (ti := aU tab) cH aA rfl rfl rfl rfl rfl ⟨rfl, rfl⟩ (iE 0 rfl) 0 rfl z43 (fun ad => ?_)
 refine aH ⟨_, rfl, ?_, rfl⟩ (fun _ => rfl)
 have hh : ∀ w, m.queue[0]? = some w → w = m.queue[0] := fun w hw => by rw [List.getElem?_eq_getElem c7] at hw; injection hw with hw; exact hw.symm
 constructor
 · intro g
   have g' := of_decide_eq_true g
   exact ⟨c1, c2, c3, c4, c5, hinv, c6, fun w hw => by rw [hh w hw]; omega⟩
 · intro e
   have := e.hd _ (List.getElem?_eq_getElem c7)
   exact decide_eq_true (by omega)
theorem hD0 (p : ProgH) (o : Op) (w : World) (h : At w [fR (aY p)]) :
   Calls Tryz.prog 164 #[dW p, .agg (cOp o).toArray] w (iD w (OpOk p.pure o)) := by
 refine cB Tryz.func164 rfl aA w _ rfl _ rfl _ h ⟨rfl, rfl, trivial⟩ _ _ (by decide) ?_
 refine CaseB.mk (fun k1 => ?_) (fun k1 => ?_)
 · have hx := jT0 (p := p.pure) (o := o) (by simpa using k1)
   apply CaseB.mk <;> intro g
   · have g' : o.on = 0 := by simpa using g
     refine aB _ pT rfl rfl rfl rfl ⟨rfl, rfl⟩ (fun A w hW => gE _ w) ?_
     rintro v L ⟨rfl, rfl⟩
     exact aH ⟨_, rfl, by rw [hx]; simp [g'], rfl⟩ (fun _ => rfl)
   · have g' : ¬ o.on = 0 := by simpa using g
     exact aH ⟨_, rfl, tno fun e => g' (hx.1 e).1, rfl⟩ (fun _ => rfl)
 refine CaseB.mk (fun k2 => ?_) (fun k2 => ?_)
 · refine CaseB.mk (fun _ => ?_) (fun g => by rw [k2] at g; cases g)
   have hx := jU0 (p := p.pure) (o := o) (.inl (by simpa using k2))
   refine aF aA z102 z102 z102 200 [((0, 0), .v (p.h0.val p.sems.length)), ((1, 0), .v (.int .i64 o.kind)), ((1, 1), .v (.int .i64 o.on)), ((1, 2), .v (.int .i64 o.arg))] [0] [_] z122 z138 ⟨rfl, trivial⟩ rfl ?_
   refine bN _ vB rfl rfl rfl rfl ⟨rfl, rfl⟩ (fun A w hW => pZ p.h0 p.sems.length o (A 1) w ⟨hW.var rfl rfl, trivial⟩) ?_
   rintro v L ⟨b, rfl, hb, rfl⟩
   refine CaseB.mk (fun g1 => ?_) (fun g1 => ?_)
   · obtain ⟨c1, c2⟩ := hb.1 g1
     have hlt : o.on.toNat < p.sems.length := by omega
     have e : p.pure.sems.getD o.on.toNat 0 = p.sems[o.on.toNat] := by simp [ProgH.pure, List.getD, hlt]
     refine CaseB.mk (fun g2 => ?_) (fun g2 => ?_)
     · have c3 : 1 ≤ o.arg := by simp at g2; omega
       refine bO (ti := aU tab) aE aA rfl rfl rfl rfl rfl ⟨rfl, rfl⟩ (aL 0 rfl (.ofR (eM p))) o.on.toNat (by omega) z43 (fun ad => ?_)
       refine aH ⟨_, rfl, ?_, rfl⟩ (fun _ => rfl)
       rw [hx, e]
       show _ ↔ (0 ≤ o.on ∧ o.on < (p.sems.length : Int)) ∧ _
       simp [c1, c2, c3]
     · have c3 : ¬ 1 ≤ o.arg := by simp at g2; omega
       exact aH ⟨_, rfl, tno fun e => c3 (hx.1 e).2.1, rfl⟩ (fun _ => rfl)
   · exact aH ⟨_, rfl, tno fun e => z83, rfl⟩ (fun _ => rfl)
 refine CaseB.mk (fun k3 => ?_) (fun k3 => ?_)
 · skip
   have hx := jU0 (p := p.pure) (o := o) (.inr (by simpa using k3))
   refine aF aA z102 z102 z102 200 [((0, 0), .v (p.h0.val p.sems.length)), ((1, 0), .v (.int .i64 o.kind)), ((1, 1), .v (.int .i64 o.on)), ((1, 2), .v (.int .i64 o.arg))] [0] [_] z122 z138 ⟨rfl, trivial⟩ rfl ?_
   refine bN _ vB rfl rfl rfl rfl ⟨rfl, rfl⟩ (fun A w hW => pZ p.h0 p.sems.length o (A 1) w ⟨hW.var rfl rfl, trivial⟩) ?_
   rintro v L ⟨b, rfl, hb, rfl⟩
   refine CaseB.mk (fun g1 => ?_) (fun g1 => ?_)
   · obtain ⟨c1, c2⟩ := hb.1 g1
     have hlt : o.on.toNat < p.sems.length := by omega
     have e : p.pure.sems.getD o.on.toNat 0 = p.sems[o.on.toNat] := by simp [ProgH.pure, List.getD, hlt]
     refine CaseB.mk (fun g2 => ?_) (fun g2 => ?_)
     · have c3 : 1 ≤ o.arg := by simp at g2; omega
       refine bO (ti := aU tab) aE aA rfl rfl rfl rfl rfl ⟨rfl, rfl⟩ (aL 0 rfl (.ofR (eM p))) o.on.toNat (by omega) z43 (fun ad => ?_)
       refine aH ⟨_, rfl, ?_, rfl⟩ (fun _ => rfl)
       rw [hx, e]
       show _ ↔ (0 ≤ o.on ∧ o.on < (p.sems.length : Int)) ∧ _
       simp [c1, c2, c3]
     · have c3 : ¬ 1 ≤ o.arg := by simp at g2; omega
       exact aH ⟨_, rfl, tno fun e => c3 (hx.1 e).2.1, rfl⟩ (fun _ => rfl)
   · exact aH ⟨_, rfl, tno fun e => z83, rfl⟩ (fun _ => rfl)
 refine CaseB.mk (fun k4 => ?_) (fun k4 => ?_)
 · have hx := jV0 (p := p.pure) (o := o) (by simpa using k4)
   apply CaseB.mk <;> intro g
   · have g1 : 0 ≤ o.on := by simp at g; omega
     apply CaseB.mk <;> intro g
     · have g2 : o.on ≤ 2 := by simp at g; omega
       refine aB _ pT rfl rfl rfl rfl ⟨rfl, rfl⟩ (fun A w hW => gE _ w) ?_
       rintro v L ⟨rfl, rfl⟩
       exact aH ⟨_, rfl, by rw [hx]; simp [g1, g2], rfl⟩ (fun _ => rfl)
     · have g2 : ¬ o.on ≤ 2 := by simp at g; omega
       exact aH ⟨_, rfl, tno fun e => g2 (hx.1 e).2.1, rfl⟩ (fun _ => rfl)
   · have g1 : ¬ 0 ≤ o.on := by simp at g; omega
     exact aH ⟨_, rfl, tno fun e => g1 (hx.1 e).1, rfl⟩ (fun _ => rfl)
 refine CaseB.mk (fun k5 => ?_) (fun k5 => ?_)
 · skip
   have hx := opOk5 (p := p.pure) (o := o) (by simpa using k5)
   refine aB _ vB rfl rfl rfl rfl ⟨rfl, rfl⟩ (fun A w hW => pZ p.h1 p.groups.length o (A 1) w ⟨hW.var rfl rfl, trivial⟩) ?_
   rintro v L ⟨b, rfl, hb, rfl⟩
   refine CaseB.mk (fun g1 => ?_) (fun g1 => ?_)
   rotate_left
   · exact aH ⟨_, rfl, tno fun e => z83, rfl⟩ (fun _ => rfl)
   have c := hb.1 g1
   have c' : 0 ≤ o.on ∧ o.on < (p.pure.groups.length : Int) := c
   refine CaseB.mk (fun g2 => ?_) (fun g2 => ?_)
   · have c3 : -9 ≤ o.arg := by simp at g2; omega
     exact aH ⟨_, rfl, by rw [hx]; simp only [c', c3, true_and, and_self]; simp, rfl⟩ (fun _ => rfl)
   · have c3 : ¬ -9 ≤ o.arg := by simp at g2; omega
     exact aH ⟨_, rfl, tno fun e => c3 (hx.1 e).2.1, rfl⟩ (fun _ => rfl)
 refine CaseB.mk (fun k6 => ?_) (fun k6 => ?_)
 · skip
   have hx := nU0 (p := p.pure) (o := o) (by simpa using k6)
   refine aB _ vB rfl rfl rfl rfl ⟨rfl, rfl⟩ (fun A w hW => pZ p.h1 p.groups.length o (A 1) w ⟨hW.var rfl rfl, trivial⟩) ?_
   rintro v L ⟨b, rfl, hb, rfl⟩
   refine CaseB.mk (fun g1 => ?_) (fun g1 => ?_)
   rotate_left
   · exact aH ⟨_, rfl, tno fun e => z83, rfl⟩ (fun _ => rfl)
   have c := hb.1 g1
   have c' : 0 ≤ o.on ∧ o.on < (p.pure.groups.length : Int) := c
   exact aH ⟨_, rfl, by rw [hx]; simp only [c', true_and, and_self]; simp, rfl⟩ (fun _ => rfl)
 refine CaseB.mk (fun k7 => ?_) (fun k7 => ?_)
 · skip
   have hx := nV0 (p := p.pure) (o := o) (by simpa using k7)
   refine aB _ vB rfl rfl rfl rfl ⟨rfl, rfl⟩ (fun A w hW => pZ p.h2 p.barriers.length o (A 1) w ⟨hW.var rfl rfl, trivial⟩) ?_
   rintro v L ⟨b, rfl, hb, rfl⟩
   refine CaseB.mk (fun g1 => ?_) (fun g1 => ?_)
   rotate_left
   · exact aH ⟨_, rfl, tno fun e => z83, rfl⟩ (fun _ => rfl)
   have c := hb.1 g1
   have c' : 0 ≤ o.on ∧ o.on < (p.pure.barriers.length : Int) := c
   exact aH ⟨_, rfl, by rw [hx]; simp only [c', true_and, and_self]; simp, rfl⟩ (fun _ => rfl)
 refine CaseB.mk (fun k8 => ?_) (fun k8 => ?_)
 · skip
   have hx := nW0 (p := p.pure) (o := o) (by simpa using k8)
   refine aB _ vB rfl rfl rfl rfl ⟨rfl, rfl⟩ (fun A w hW => pZ p.h3 p.rooms.length o (A 1) w ⟨hW.var rfl rfl, trivial⟩) ?_
   rintro v L ⟨b, rfl, hb, rfl⟩
   refine CaseB.mk (fun g1 => ?_) (fun g1 => ?_)
   rotate_left
   · exact aH ⟨_, rfl, tno fun e => z83, rfl⟩ (fun _ => rfl)
   have c := hb.1 g1
   have c' : 0 ≤ o.on ∧ o.on < (p.pure.rooms.length : Int) := c
   refine aB _ pT rfl rfl rfl rfl ⟨rfl, rfl⟩ (fun A w hW => gE _ w) ?_
   rintro v L ⟨rfl, rfl⟩
   exact aH ⟨_, rfl, by rw [hx]; simp only [c', true_and, and_self], rfl⟩ (fun _ => rfl)
 refine CaseB.mk (fun k9 => ?_) (fun k9 => ?_)
 · refine CaseB.mk (fun _ => ?_) (fun g => by rw [k9] at g; cases g)
   have hx := jW0 (p := p.pure) (o := o) (.inl (by simpa using k9))
   refine aB _ vB rfl rfl rfl rfl ⟨rfl, rfl⟩ (fun A w hW => pZ p.h3 p.rooms.length o (A 1) w ⟨hW.var rfl rfl, trivial⟩) ?_
   rintro v L ⟨b, rfl, hb, rfl⟩
   refine CaseB.mk (fun g1 => ?_) (fun g1 => ?_)
   rotate_left
   · exact aH ⟨_, rfl, tno fun e => z83, rfl⟩ (fun _ => rfl)
   have c := hb.1 g1
   have c' : 0 ≤ o.on ∧ o.on < (p.pure.rooms.length : Int) := c
   exact aH ⟨_, rfl, by rw [hx]; simp only [c', true_and, and_self]; simp, rfl⟩ (fun _ => rfl)
 refine CaseB.mk (fun k10 => ?_) (fun k10 => ?_)
 · skip
   have hx := jW0 (p := p.pure) (o := o) (.inr (by simpa using k10))
   refine aB _ vB rfl rfl rfl rfl ⟨rfl, rfl⟩ (fun A w hW => pZ p.h3 p.rooms.length o (A 1) w ⟨hW.var rfl rfl, trivial⟩) ?_
   rintro v L ⟨b, rfl, hb, rfl⟩
   refine CaseB.mk (fun g1 => ?_) (fun g1 => ?_)
   rotate_left
   · exact aH ⟨_, rfl, tno fun e => z83, rfl⟩ (fun _ => rfl)
   have c := hb.1 g1
   have c' : 0 ≤ o.on ∧ o.on < (p.pure.rooms.length : Int) := c
   exact aH ⟨_, rfl, by rw [hx]; simp only [c', true_and, and_self]; simp, rfl⟩ (fun _ => rfl)
 have hno : ¬ OpOk p.pure o := opOk0 (by simp at k1 k2 k3 k4 k5 k6 k7 k8 k9 k10; omega)
 exact aH ⟨_, rfl, tno hno, rfl⟩ (fun _ => rfl)
theorem vK (p : ProgH) (w : World) (h : At w [fR (aY p)]) (hs : p.sems.length ≤ 1048576 ∧ p.groups.length ≤ 1048576 ∧ p.barriers.length ≤ 1048576 ∧ p.rooms.length ≤ 1048576) :
   Calls Tryz.prog 118 #[dW p] w (iD w (ProgOk p.pure)) := by
 refine bZ Tryz.func118 rfl aA w _ rfl _ rfl _ h ⟨rfl, rfl, trivial⟩ _ (by decide) ?_
 refine aB _ fP0 rfl rfl rfl rfl ⟨rfl, rfl⟩ (fun A w hW => tF p.h0 p.sems 1 9 w ⟨hW.get 0 rfl (.ofR (eM p)), trivial⟩ (by omega)) ?_
 rintro v L ⟨b0, rfl, hb0, rfl⟩
 apply CaseB.mk <;> intro g
 · exact aH ⟨_, rfl, tno fun e => (by have := hb0.2 e.sems; rw [this] at g; cases g), rfl⟩ (fun _ => rfl)
 have w0 := hb0.1 z98
 refine aB _ fP0 rfl rfl rfl rfl ⟨rfl, rfl⟩ (fun A w hW => tF p.h1 p.groups 0 9 w ⟨hW.get 0 rfl (.ofR (iW p)), trivial⟩ (by omega)) ?_
 rintro v L ⟨b1, rfl, hb1, rfl⟩
 apply CaseB.mk <;> intro g
 · exact aH ⟨_, rfl, tno fun e => (by have := hb1.2 e.groups; rw [this] at g; cases g), rfl⟩ (fun _ => rfl)
 have w1 := hb1.1 z98
 refine aB _ fP0 rfl rfl rfl rfl ⟨rfl, rfl⟩ (fun A w hW => tF p.h2 p.barriers 1 6 w ⟨hW.get 0 rfl (.ofR (eH p)), trivial⟩ (by omega)) ?_
 rintro v L ⟨b2, rfl, hb2, rfl⟩
 apply CaseB.mk <;> intro g
 · exact aH ⟨_, rfl, tno fun e => (by have := hb2.2 e.barriers; rw [this] at g; cases g), rfl⟩ (fun _ => rfl)
 have w2 := hb2.1 z98
 refine aB _ fP0 rfl rfl rfl rfl ⟨rfl, rfl⟩ (fun A w hW => tF p.h3 p.rooms 0 4 w ⟨hW.get 0 rfl (.ofR (gN p)), trivial⟩ (by omega)) ?_
 rintro v L ⟨b3, rfl, hb3, rfl⟩
 apply CaseB.mk <;> intro g
 · exact aH ⟨_, rfl, tno fun e => (by have := hb3.2 e.rooms; rw [this] at g; cases g), rfl⟩ (fun _ => rfl)
 have w3 := hb3.1 z98
 have hlen : p.pure.threads.length = p.threads.length := by simp [ProgH.pure]
 apply CaseB.mk <;> intro g
 · have q : ¬ 1 ≤ p.threads.length := by have g' := of_decide_eq_true g; omega
   exact aH ⟨_, rfl, tno fun e => q (hlen ▸ e.n1), rfl⟩ (fun _ => rfl)
 have n1 : 1 ≤ p.threads.length := by have g' := of_decide_eq_false g; omega
 apply CaseB.mk <;> intro g
 · have q : ¬ p.threads.length ≤ 4 := by simp at g; omega
   exact aH ⟨_, rfl, tno fun e => q (hlen ▸ e.n4), rfl⟩ (fun _ => rfl)
 have n4 : p.threads.length ≤ 4 := by simp at g; omega
 have hmem : ∀ (k : Nat) (hk : k < p.threads.length), (p.threads[k]).m ∈ p.pure.threads := fun k hk => List.mem_map_of_mem (List.getElem_mem hk)
 refine LoopW.mk ⟨{ k : Nat // k ≤ p.threads.length ∧ ∀ t ∈ p.pure.threads.take k, t.length ≤ 8 ∧ ∀ o ∈ t, OpOk p.pure o },
   fun k => .mk [(1, .p 0 0), (42, .v (p.h4.val p.threads.length)), (43, .v (.int .i64 (p.threads.length : Int))), (44, .v (.int .i64 (k.1 : Int)))] 1 0 [(0, 26, 5)] [((0, 0), .v (p.h0.val p.sems.length)), ((0, 1), .v (p.h1.val p.groups.length)), ((0, 2), .v (p.h2.val p.barriers.length)), ((0, 3), .v (p.h3.val p.rooms.length)), ((0, 4), .v (p.h4.val p.threads.length))] [fR (aY p)],
   fun k => p.threads.length - k.1, ⟨0, Nat.zero_le _, by simp⟩, ?_, ?_⟩
 · exact aC [0] zw2 zw0 zw2 zw5 zw4 rfl rfl
 rintro ⟨k, hk, hinv⟩
 apply CaseB.mk <;> intro g
 · have hlt : k < p.threads.length := by simpa using g
   have hget : p.pure.threads[k]'(by rw [hlen]; exact hlt) = (p.threads[k]).m := by simp [ProgH.pure]
   refine aG dT aA rfl rfl rfl rfl rfl ⟨rfl, rfl⟩ (aL 0 rfl (.trans (.R_R (bB p)) (.ofR aX))) k rfl z43 (fun ad => ?_)
   apply CaseB.mk <;> intro g
   · have q : ¬ (p.threads[k]).m.length ≤ 8 := by simp at g; omega
     exact aH ⟨_, rfl, tno fun e => q (e.ops _ (hmem k hlt)).1, rfl⟩ (fun _ => rfl)
   have n8 : (p.threads[k]).m.length ≤ 8 := by simp at g; omega
   refine LoopW.mk ⟨{ j : Nat // j ≤ (p.threads[k]).m.length ∧ ∀ o ∈ (p.threads[k]).m.take j, OpOk p.pure o },
     fun j => .mk [(1, .p 0 0), (42, .v (p.h4.val p.threads.length)), (43, .v (.int .i64 (p.threads.length : Int))), (44, .v (.int .i64 (k : Int))), (51, .v ((p.threads[k]).q.val (p.threads[k]).m.length)), (52, .v (.int .i64 ((p.threads[k]).m.length : Int))), (53, .v (.int .i64 (j.1 : Int)))] 1 0 [(0, 26, 5)] [((0, 0), .v (p.h0.val p.sems.length)), ((0, 1), .v (p.h1.val p.groups.length)), ((0, 2), .v (p.h2.val p.barriers.length)), ((0, 3), .v (p.h3.val p.rooms.length)), ((0, 4), .v (p.h4.val p.threads.length))] [fR (aY p)],
     fun j => (p.threads[k]).m.length - j.1, ⟨0, Nat.zero_le _, by simp⟩, ?_, ?_⟩
   · exact aC [0] zw2 zw0 zw2 zw5 zw4 rfl rfl
   rintro ⟨j, hj, hinv2⟩
   apply CaseB.mk <;> intro g
   · have hlj : j < (p.threads[k]).m.length := by simpa using g
     refine aG oE aA rfl rfl rfl rfl rfl ⟨rfl, rfl⟩ (aL 0 rfl (.trans (.R_R (bB p)) (.ofR (fZ _ _ k hlt)))) j rfl z43 (fun ad2 => ?_)
     refine aB _ cl164 rfl rfl rfl rfl ⟨rfl, rfl⟩ (fun A w hW => hD0 p _ w ⟨hW.get 0 rfl (.refl _), trivial⟩) ?_
     rintro v L ⟨b, rfl, hb, rfl⟩
     apply CaseB.mk <;> intro g
     · exact aH ⟨_, rfl, tno fun e => z52, rfl⟩ (fun _ => rfl)
     have hw := bD j _ hlj (by omega)
     refine ⟨⟨j + 1, by omega, fun o ho => ?_⟩, ?_, by simp; omega⟩
     · rw [List.take_succ_eq_append_getElem hlj] at ho
       rcases List.mem_append.1 ho with ho | ho
       · exact hinv2 o ho
       · simp at ho; subst ho; exact hb.1 z98
     · exact aC [0] zw1 zw0 zw1 zw5 zw3 rfl rfl
   have hge2 : (p.threads[k]).m.length ≤ j := by simpa using g
   have hw := bD k _ hlt (by omega)
   refine ⟨⟨k + 1, by omega, fun t ht => ?_⟩, ?_, by simp; omega⟩
   · rw [List.take_succ_eq_append_getElem (by rw [hlen]; exact hlt)] at ht
     rcases List.mem_append.1 ht with ht | ht
     · exact hinv t ht
     · simp only [List.mem_singleton] at ht
       rw [hget] at ht
       subst ht
       exact ⟨n8, by rw [List.take_of_length_le hge2] at hinv2; exact hinv2⟩
   · exact aC [0] zw1 zw0 zw1 zw5 zw3 rfl rfl
 have hge : p.threads.length ≤ k := by simpa using g
 refine aH ⟨_, rfl, jS ⟨w0, w1, w2, w3, by rw [hlen]; exact n1, by rw [hlen]; exact n4, fun t ht => ?_⟩, rfl⟩ (fun _ => rfl)
 rw [List.take_of_length_le (by rw [hlen]; exact hge)] at hinv
 exact hinv t ht
end Go.Proofs.YtijmjecehppbfaaGreat
