/- FnWaitsFor: texts that its proof stands on, part 8. -/
import Derived.Test.YtjkkoonennpceaaGreatQWaitsForg
namespace Go.Proofs.YtjkkoonennpceaaGreat
open Go Go.Sx Go.RowKit
def Sem.acquire (m : Sem) (t n : Int) : Sem × Bool :=
 if m.queue = [] ∧ n ≤ m.free then ({ m with free := m.free - n }, true) else ({ m with queue := m.queue ++ [⟨t, n⟩] }, false)
def handL : Int → List Waiter → Int × List Int × List Waiter
 | f, [] => (f, [], [])
 | f, w :: r => if w.n ≤ f then ((handL (f - w.n) r).1, w.t :: (handL (f - w.n) r).2.1, (handL (f - w.n) r).2.2) else (f, [], w :: r)
def Sem.release (m : Sem) (n : Int) : Option (Sem × List Int) :=
 if n ≤ m.limit - m.free then some (⟨(handL (m.free + n) m.queue).1, m.limit, (handL (m.free + n) m.queue).2.2⟩, (handL (m.free + n) m.queue).2.1) else none
def Once.enter (m : Once) (t : Int) : Once × Int :=
 if m.state = 0 then (⟨1, t, 0, []⟩, 0) else if m.state = 1 then ({ m with waits := m.waits ++ [t] }, 1) else (m, 2)
def Once.finish (m : Once) (t v : Int) : Once × List Int := (⟨2, t, v, []⟩, m.waits)
def Group.add (m : Group) (n : Int) : Option (Group × List Int) :=
 if isValue (m.count + n) = true then (if m.count + n = 0 then some (⟨0, []⟩, m.waits) else some (⟨m.count + n, m.waits⟩, [])) else none
def Group.wait (m : Group) (t : Int) : Group × Bool := if m.count = 0 then (⟨0, []⟩, true) else (⟨m.count, m.waits ++ [t]⟩, false)
def Barrier.arrive (m : Barrier) (t : Int) : Option (Barrier × List Int) :=
 if (m.waits.length : Int) + 1 < m.parties then some (⟨m.parties, m.round, m.waits ++ [t]⟩, [])
 else if m.round = 9999 then none else some (⟨m.parties, m.round + 1, []⟩, m.waits ++ [t])
def opAt (p : Prog) (s : State) (t : Int) : Op := (p.threads.getD t.toNat []).getD (s.places.getD t.toNat 0).toNat Op0
def semAt (s : State) (o : Op) : Sem := s.sems.getD o.on.toNat ⟨0, 0, []⟩
def onceAt (s : State) (o : Op) : Once := s.onces.getD o.on.toNat ⟨0, 0, 0, []⟩
def groupAt (s : State) (o : Op) : Group := s.groups.getD o.on.toNat ⟨0, []⟩
def barrierAt (s : State) (o : Op) : Barrier := s.barriers.getD o.on.toNat ⟨0, 0, []⟩
def chanAt (s : State) (o : Op) : Chan := s.chans.getD o.on.toNat .zero
def setSem (s : State) (o : Op) (x : Sem) : State := { s with sems := s.sems.set o.on.toNat x }
def setOnce (s : State) (o : Op) (x : Once) : State := { s with onces := s.onces.set o.on.toNat x }
def setGroup (s : State) (o : Op) (x : Group) : State := { s with groups := s.groups.set o.on.toNat x }
def setBarrier (s : State) (o : Op) (x : Barrier) : State := { s with barriers := s.barriers.set o.on.toNat x }
def setChan (s : State) (o : Op) (x : Chan) : State := { s with chans := s.chans.set o.on.toNat x }
def sayM (s : State) (v : Int) : State := { s with said := s.said ++ [v] }
def faultM (s : State) (f : Int) : State := { s with fault := f }
def doAcquire (p : Prog) (s : State) (t : Int) (o : Op) : State :=
 if ((semAt s o).acquire t o.arg).2 = true then onM p [t] (setSem s o ((semAt s o).acquire t o.arg).1) else waitM (setSem s o ((semAt s o).acquire t o.arg).1) t 1
def doRelease (p : Prog) (s : State) (t : Int) (o : Op) : State :=
 match (semAt s o).release o.arg with
 | none => faultM s 1
 | some r => onM p (r.2 ++ [t]) (setSem s o r.1)
def doOnce (p : Prog) (s : State) (t : Int) (o : Op) : State :=
 if s.status.getD t.toNat 0 = 2 then onM p (((onceAt s o).finish t o.arg).2 ++ [t]) (setOnce s o ((onceAt s o).finish t o.arg).1)
 else if ((onceAt s o).enter t).2 = 0 then waitM (setOnce s o ((onceAt s o).enter t).1) t 2
 else if ((onceAt s o).enter t).2 = 1 then waitM (setOnce s o ((onceAt s o).enter t).1) t 1
 else onM p [t] (setOnce s o ((onceAt s o).enter t).1)
def doAdd (p : Prog) (s : State) (t : Int) (o : Op) : State :=
 match (groupAt s o).add o.arg with
 | none => faultM s 2
 | some r => onM p (r.2 ++ [t]) (setGroup s o r.1)
def doWait (p : Prog) (s : State) (t : Int) (o : Op) : State :=
 if ((groupAt s o).wait t).2 = true then onM p [t] (setGroup s o ((groupAt s o).wait t).1) else waitM (setGroup s o ((groupAt s o).wait t).1) t 1
def doArrive (p : Prog) (s : State) (t : Int) (o : Op) : State :=
 match (barrierAt s o).arrive t with
 | none => waitM (setBarrier s o ⟨0, 0, []⟩) t 1
 | some r => if r.2 = [] then waitM (setBarrier s o r.1) t 1 else onM p r.2 (setBarrier s o r.1)
def doSend (p : Prog) (s : State) (t : Int) (o : Op) : State :=
 if ((chanAt s o).send t o.arg).2.2.2 = true then
   if ((chanAt s o).send t o.arg).2.2.1 = true then
     onM p (((chanAt s o).send t o.arg).2.1 ++ [t]) (if ((chanAt s o).send t o.arg).2.1 = [] then setChan s o ((chanAt s o).send t o.arg).1 else sayM (setChan s o ((chanAt s o).send t o.arg).1) o.arg)
   else waitM (setChan s o ((chanAt s o).send t o.arg).1) t 1
 else faultM s 3
def doGet (p : Prog) (s : State) (t : Int) (o : Op) : State :=
 if ((chanAt s o).get t).2.2.1 = 0 then waitM (setChan s o ((chanAt s o).get t).1) t 1
 else onM p (((chanAt s o).get t).2.2.2.1 ++ [t]) (if ((chanAt s o).get t).2.2.1 = 1 then sayM (setChan s o ((chanAt s o).get t).1) ((chanAt s o).get t).2.1 else setChan s o ((chanAt s o).get t).1)
def doClose (p : Prog) (s : State) (t : Int) (o : Op) : State :=
 if (chanAt s o).close.2.2 = true then onM p ((chanAt s o).close.2.1 ++ [t]) (setChan s o (chanAt s o).close.1) else faultM s 4
def doOp (p : Prog) (s : State) (t : Int) (o : Op) : State :=
 if o.kind = 1 then onM p [t] (sayM s o.arg)
 else if o.kind = 2 then doAcquire p s t o
 else if o.kind = 3 then doRelease p s t o
 else if o.kind = 4 then doOnce p s t o
 else if o.kind = 5 then doAdd p s t o
 else if o.kind = 6 then doWait p s t o
 else if o.kind = 7 then doArrive p s t o
 else if o.kind = 8 then doSend p s t o
 else if o.kind = 9 then doGet p s t o
 else doClose p s t o
def doM (p : Prog) (s : State) (t : Int) : State := doOp p s t (opAt p s t)
def Worn (p : Prog) (s : State) (t : Int) : Prop := (opAt p s t).kind = 7 ∧ (barrierAt s (opAt p s t)).arrive t = none
structure Rdy (p : Prog) (s : State) (k : Nat) (ops : List Op) (a st : Int) (op : Op) : Prop where
 ft : Fits p s
 f : s.fault = 0
 kn : k < p.threads.length
 h1 : p.threads[k]? = some ops
 h2 : s.places[k]? = some a
 h3 : s.status[k]? = some st
 a0 : 0 ≤ a
 ho : ops[a.toNat]? = some op
 ev : ofKey (events s) k = []
 ow : (st = 0 ∧ ofKey (owners s) k = []) ∨ (st = 2 ∧ op.kind = 4 ∧ ofKey (owners s) k = [op.on])
 ok : OpOk p op
 at_ : opAt p s k = op
theorem readyM_mem {s : State} {t : Int} (h : t ∈ readyM s) : s.fault = 0 ∧ ∃ (k : Nat) (st : Int), t = k ∧ s.status[k]? = some st ∧ (st = 0 ∨ st = 2) := by
 rw [readyM] at h
 split at h
 · rename_i hf
   obtain ⟨k, st, h1, h2⟩ := evL_mem2.1 h
   rw [evReady] at h2
   split at h2
   · rename_i h3
     exact ⟨hf, k, st, by simpa using h2, h1, h3⟩
   · cases h2
 · cases h
theorem rdy {p : Prog} {s : State} (ft : Fits p s) {t : Int} (h : t ∈ readyM s) : ∃ (k : Nat) (ops : List Op) (a st : Int) (op : Op), t = k ∧ Rdy p s k ops a st op := by
 obtain ⟨hf, k, st, rfl, h3, h4⟩ := readyM_mem h
 have hs : k < s.status.length := (List.getElem?_eq_some_iff.1 h3).1
 have hk : k < p.threads.length := by rw [← ft.ns]; exact hs
 have hp : k < s.places.length := by rw [ft.np]; exact hk
 have h1 : p.threads[k]? = some p.threads[k] := List.getElem?_eq_getElem hk
 have h2 : s.places[k]? = some s.places[k] := List.getElem?_eq_getElem hp
 obtain ⟨a0, a1, h5⟩ := ft.threads k _ _ _ h1 h2 h3
 rcases h5 with ⟨_, e, _⟩ | ⟨op, ho, h5⟩
 · omega
 · have hok : OpOk p op := (ft.prog.ops _ (List.mem_of_getElem? h1)).2 _ (List.mem_of_getElem? ho)
   have hat : opAt p s (k : Int) = op := by
     simp only [opAt, Int.toNat_natCast, List.getD_eq_getElem?_getD, h1, h2, Option.getD_some, ho]
   refine ⟨k, p.threads[k], s.places[k], st, op, rfl, ft, hf, hk, h1, h2, h3, a0, ho, ?_, ?_, hok, hat⟩
   · rcases h5 with ⟨_, e, _⟩ | ⟨e, _, _⟩ | ⟨_, e, _⟩
     · exact e
     · omega
     · exact e
   · rcases h5 with ⟨e1, _, e⟩ | ⟨e, _, _⟩ | ⟨e1, _, e2, e3⟩
     · exact .inl ⟨e1, e⟩
     · omega
     · exact .inr ⟨e1, e2, e3⟩
theorem Rdy.own0 {p : Prog} {s : State} {k : Nat} {ops : List Op} {a st : Int} {op : Op} (r : Rdy p s k ops a st op) (h : op.kind ≠ 4) : ofKey (owners s) k = [] := by
 rcases r.ow with ⟨_, e⟩ | ⟨_, e, _⟩
 · exact e
 · exact (h e).elim
theorem Rdy.thr {p : Prog} {s : State} {k : Nat} {ops : List Op} {a st : Int} {op : Op} (r : Rdy p s k ops a st op) : isThread (k : Int) = true := by
 have := r.ft.prog.n4
 have := r.kn
 simp [isThread]; omega
theorem Rdy.alt {p : Prog} {s : State} {k : Nat} {ops : List Op} {a st : Int} {op : Op} (r : Rdy p s k ops a st op) : a < ops.length := by
 have h := (List.getElem?_eq_some_iff.1 r.ho).1
 have := r.a0
 omega
theorem Rdy.onFits {p : Prog} {s : State} {k : Nat} {ops : List Op} {a st : Int} {op : Op} (r : Rdy p s k ops a st op) {s1 : State} {who : List Int} {fx fx' : List (Int × Waiting)} (sh : SharedOk p s1)
   (e1 : s1.places = s.places) (e2 : s1.status = s.status) (e3 : s1.fault = s.fault) (lsaid : s1.said.length ≤ 64) (said : ∀ v ∈ s1.said, isValue v = true)
   (sw : Swap (events s) (events s1) fx fx') (ow : ∀ u : Int, u ≠ k → ofKey (owners s1) u = ofKey (owners s) u) (owk : ofKey (owners s1) k = [])
   (hd : who.Nodup) (hw : ∀ u ∈ who, ofKey fx u ≠ [] ∧ ofKey fx' u = []) (ho : ∀ u, u ∉ who → u ≠ k → ofKey fx' u = ofKey fx u) (hk : ofKey fx' k = []) : Fits p (onM p (who ++ [(k : Int)]) s1) := by
 have hkw : (k : Int) ∉ who := fun hm => (hw _ hm).1 (sw.none r.ev)
 have hd2 : (who ++ [(k : Int)]).Nodup := by
   rw [List.nodup_append]
   exact ⟨hd, by simp, fun x hx y hy => by simp at hy; subst hy; rintro rfl; exact hkw hx⟩
 have hpos : ∀ x ∈ who ++ [(k : Int)], 0 ≤ x := fun x hx => by
   rcases List.mem_append.1 hx with hx | hx
   · exact (r.ft.isIn fun h0 => (hw x hx).1 (sw.none h0)).1
   · simp at hx; omega
 have P := onM_places p (who ++ [(k : Int)]) s1 hd2 hpos
 have S := onM_status p (who ++ [(k : Int)]) s1 hd2 hpos
 obtain ⟨pl, st', hE, l1, l2⟩ := onM_rest p (who ++ [(k : Int)]) s1
 rw [hE] at P S ⊢
 have hmem : ∀ u : Nat, u ≠ k → (((u : Int) ∈ who ++ [(k : Int)]) ↔ (u : Int) ∈ who) := fun u hu => by
   have : ¬ (u : Int) = k := by omega
   simp [this]
 refine r.ft.move (t := k) (who := who) (fx := fx) (fx' := fx') (sh.of rfl rfl rfl rfl rfl) (by rw [← e1]; exact l1) (by rw [← e2]; exact l2) lsaid said (by show 0 ≤ s1.fault; rw [e3]; exact r.ft.f0) (by show s1.fault ≤ 4; rw [e3]; exact r.ft.f4) sw ow (fun u hu _ => hw u hu) ho ?_ ?_ ?_ r.kn
 · intro u hu
   have := P u
   simp only [hmem u hu, e1] at this
   exact this
 · intro u hu
   have := S u
   simp only [hmem u hu, e1, e2] at this
   exact this
 · intro ops' a' st2 h1 h2 h3
   rw [r.h1] at h1; rw [r.h2] at h2; rw [r.h3] at h3
   injection h1 with h1; injection h2 with h2; injection h3 with h3
   subst h1; subst h2; subst h3
   have P' := P k
   have S' := S k
   rw [if_pos (by simp), e1, r.h2] at P'
   rw [if_pos (by simp), e2, e1, r.h3, List.getD_eq_getElem?_getD, r.h2] at S'
   exact ⟨_, _, P', S', .inr (.inl ⟨rfl, rfl, r.alt, (sw.come r.ev).trans hk, owk⟩)⟩
theorem Rdy.waitFits {p : Prog} {s : State} {k : Nat} {ops : List Op} {a st : Int} {op : Op} (r : Rdy p s k ops a st op) {s1 : State} {fx fx' : List (Int × Waiting)} {b : Int} (sh : SharedOk p s1)
   (e1 : s1.places = s.places) (e2 : s1.status = s.status) (e3 : s1.fault = s.fault) (e4 : s1.said = s.said)
   (sw : Swap (events s) (events s1) fx fx') (ow : ∀ u : Int, u ≠ k → ofKey (owners s1) u = ofKey (owners s) u)
   (ho : ∀ u : Int, u ≠ k → ofKey fx' u = ofKey fx u) (hk : (b = 1 ∧ ofKey fx' k = [want op] ∧ ofKey (owners s1) k = []) ∨ (b = 2 ∧ ofKey fx' k = [] ∧ op.kind = 4 ∧ ofKey (owners s1) k = [op.on])) : Fits p (waitM s1 k b) := by
 have hlen : k < s1.status.length := by rw [e2]; exact (List.getElem?_eq_some_iff.1 r.h3).1
 refine r.ft.move (t := k) (who := []) (fx := fx) (fx' := fx') (sh.of rfl rfl rfl rfl rfl) (by show s1.places.length = _; rw [e1]) (by simp [waitM, e2]) (by show s1.said.length ≤ 64; rw [e4]; exact r.ft.lsaid) (by show ∀ v ∈ s1.said, _; rw [e4]; exact r.ft.said) (by show 0 ≤ s1.fault; rw [e3]; exact r.ft.f0) (by show s1.fault ≤ 4; rw [e3]; exact r.ft.f4) sw ow (fun u hu _ => by simp at hu) (fun u _ hu => ho u hu) ?_ ?_ ?_ r.kn
 · intro u hu
   simp [waitM, e1]
 · intro u hu
   have : ¬ k = u := fun h => hu h.symm
   simp [waitM, e2, this]
 · intro ops' a' st2 h1 h2 h3
   rw [r.h1] at h1; rw [r.h2] at h2
   injection h1 with h1; injection h2 with h2
   subst h1; subst h2
   refine ⟨a, b, by show s1.places[k]? = _; rw [e1, r.h2], by simp [waitM, hlen], .inr (.inr ⟨op, r.ho, rfl, ?_⟩)⟩
   have hc := sw.come r.ev
   rcases hk with ⟨rfl, k1, k2⟩ | ⟨rfl, k1, k2, k3⟩
   · exact .inl ⟨rfl, hc.trans k1, k2⟩
   · exact .inr ⟨rfl, hc.trans k1, k2, k3⟩
theorem Fits.fault {p : Prog} {s : State} (ft : Fits p s) {f : Int} (h0 : 0 ≤ f) (h4 : f ≤ 4) : Fits p (faultM s f) :=
 ⟨ft.prog, ft.np, ft.ns, ft.lsems, ft.lgroups, ft.lbarriers, ft.lchans, ft.lonces, ft.lsaid, h0, h4, ft.sems, ft.groups, ft.barriers, ft.chans, ft.onces, ft.said, ft.threads, ft.ev, ft.ow⟩
def AcqR (p : Sem × Bool) (v : Value) (L : List Fct) : Prop := ∃ y : Sl, v = .tuple #[semV p.1 y, .bool p.2, .bool true] ∧ L = [own y 137 cWaiter 2 p.1.queue]
theorem wrap_sub {a b : Int} (h0 : 0 ≤ a - b) (h1 : a - b ≤ 1000) : IntKind.i64.wrap (a - b) = a - b := by rw [wrap_nn] <;> omega
theorem wrap_add {a b : Int} (h0 : 0 ≤ a + b) (h1 : a + b ≤ 1000) : IntKind.i64.wrap (a + b) = a + b := by rw [wrap_nn] <;> omega
theorem handL_no {f : Int} {R : List Waiter} (h : ∀ h0 : 0 < R.length, ¬ R[0].n ≤ f) : handL f R = (f, [], R) := by
 cases R with
 | nil => rfl
 | cons x r => exact if_neg (h (by simp))
theorem handL_yes {f : Int} {R : List Waiter} (h0 : 0 < R.length) (h : R[0].n ≤ f) : handL f R = ((handL (f - R[0].n) (R.drop 1)).1, R[0].t :: (handL (f - R[0].n) (R.drop 1)).2.1, (handL (f - R[0].n) (R.drop 1)).2.2) := by
 cases R with
 | nil => simp at h0
 | cons x r => exact if_pos h
def nil4 : Sl := ⟨none, 0⟩
def RelR (p : Option (Sem × List Int)) (v : Value) (L : List Fct) : Prop :=
 match p with
 | none => ∃ y z : Sl, v = .tuple #[semV ⟨0, 0, []⟩ y, z.val 0, .bool false] ∧ L = []
 | some p => ∃ y z : Sl, v = .tuple #[semV p.1 y, z.val p.2.length, .bool true] ∧ L = [own y 137 cWaiter 2 p.1.queue, own z 3 cInt 1 p.2]
def EntR (p : Once × Int) (v : Value) (L : List Fct) : Prop := ∃ y : Sl, v = .tuple #[onceV p.1 y, .int .i64 p.2, .bool true] ∧ L = [own y 3 cInt 1 p.1.waits]
def FinR (p : Once × List Int) (v : Value) (L : List Fct) : Prop := ∃ y z : Sl, v = .tuple #[onceV p.1 y, z.val p.2.length, .bool true] ∧ L = [own y 3 cInt 1 p.1.waits, own z 3 cInt 1 p.2]
def AddR (p : Option (Group × List Int)) (v : Value) (L : List Fct) : Prop :=
 match p with
 | none => ∃ y z : Sl, v = .tuple #[groupV ⟨0, []⟩ y, z.val 0, .bool false] ∧ L = []
 | some p => ∃ y z : Sl, v = .tuple #[groupV p.1 y, z.val p.2.length, .bool true] ∧ L = [own y 3 cInt 1 p.1.waits, own z 3 cInt 1 p.2]
def WaiR (p : Group × Bool) (v : Value) (L : List Fct) : Prop := ∃ y : Sl, v = .tuple #[groupV p.1 y, .bool p.2, .bool true] ∧ L = [own y 3 cInt 1 p.1.waits]
def ArrR (p : Option (Barrier × List Int)) (v : Value) (L : List Fct) : Prop :=
 match p with
 | none => ∃ z : Sl, v = .tuple #[barrierV ⟨0, 0, []⟩ nil4, z.val 0, .bool false] ∧ L = []
 | some p => ∃ y z : Sl, v = .tuple #[barrierV p.1 y, z.val p.2.length, .bool true] ∧ L = [own y 3 cInt 1 p.1.waits, own z 3 cInt 1 p.2]
theorem onM_succ (p : Prog) (who : List Int) (s : State) {k : Nat} (hk : k < who.length) : onM p (who.take (k + 1)) s = goM p (onM p (who.take k) s) who[k] := by
 rw [List.take_succ_eq_append_getElem hk, onM, List.foldl_append]; rfl
theorem onM_len (p : Prog) (who : List Int) (s : State) : (onM p who s).places.length = s.places.length ∧ (onM p who s).status.length = s.status.length := by
 obtain ⟨pl, st, h, h1, h2⟩ := onM_rest p who s
 rw [h]; exact ⟨h1, h2⟩
theorem onM_bound (p : Prog) : ∀ (who : List Int) (s : State) (B : Int), 0 ≤ B → (∀ a ∈ s.places, 0 ≤ a ∧ a ≤ B) → ∀ a ∈ (onM p who s).places, 0 ≤ a ∧ a ≤ B + who.length
 | [], s, B, _, h => fun a ha => by have := h a ha; simp; omega
 | x :: r, s, B, hB, h => fun a ha => by
   have hg : ∀ a ∈ (goM p s x).places, 0 ≤ a ∧ a ≤ B + 1 := by
     intro a ha
     simp only [goM] at ha
     rcases List.mem_or_eq_of_mem_set ha with ha | rfl
     · have := h a ha; omega
     · rw [List.getD_eq_getElem?_getD]
       cases hx : s.places[x.toNat]? with
       | none => simp; omega
       | some u => have := h u (List.mem_of_getElem? hx); simp; omega
   have := onM_bound p r (goM p s x) (B + 1) (by omega) hg a ha
   simp only [List.length_cons]
   omega
theorem onM_said (p : Prog) (who : List Int) (s : State) : (onM p who s).said = s.said := by
 obtain ⟨pl, st, h, _⟩ := onM_rest p who s
 rw [h]
theorem ofKey_one {β : Type} (k u : Int) (x : β) : ofKey [(k, x)] u = if k = u then [x] else [] := by
 by_cases h : k = u <;> simp [ofKey, h]
theorem ofKey_map_nil {α β : Type} {g : α → Int} {h : α → β} {xs : List α} {u : Int} : ofKey (xs.map fun x => (g x, h x)) u = [] ↔ u ∉ xs.map g := by
 rw [ofKey_nil]
 constructor
 · intro h1 h2
   obtain ⟨x, hx, rfl⟩ := List.mem_map.1 h2
   exact h1 _ (List.mem_map.2 ⟨x, hx, rfl⟩) rfl
 · intro h1 e he h2
   obtain ⟨x, hx, rfl⟩ := List.mem_map.1 he
   exact h1 (List.mem_map.2 ⟨x, hx, h2⟩)
theorem taken {α β : Type} (g : α → Int) (h : α → β) (xs : List α) (n : Nat) (nd : (xs.map g).Nodup) :
   (∀ u ∈ (xs.take n).map g, ofKey (xs.map fun x => (g x, h x)) u ≠ [] ∧ ofKey ((xs.drop n).map fun x => (g x, h x)) u = []) ∧
   (∀ u, u ∉ (xs.take n).map g → ofKey ((xs.drop n).map fun x => (g x, h x)) u = ofKey (xs.map fun x => (g x, h x)) u) := by
 have e : xs.map g = (xs.take n).map g ++ (xs.drop n).map g := by rw [← List.map_append, List.take_append_drop]
 have e2 : (xs.map fun x => (g x, h x)) = ((xs.take n).map fun x => (g x, h x)) ++ (xs.drop n).map fun x => (g x, h x) := by rw [← List.map_append, List.take_append_drop]
 rw [e, List.nodup_append] at nd
 refine ⟨fun u hu => ⟨fun h0 => ?_, ofKey_map_nil.2 fun h2 => nd.2.2 u hu u h2 rfl⟩, fun u hu => ?_⟩
 · rw [ofKey_map_nil, e] at h0
   exact h0 (List.mem_append_left _ hu)
 · rw [e2, ofKey_append, ofKey_map_nil.2 hu]; rfl
theorem distinct_nd {xs : List Int} (h : distinct xs = true) : xs.Nodup := by
 simp only [distinct, decide_eq_true_eq] at h
 exact h.1
theorem say_fits {p : Prog} {s : State} {k : Nat} {ops : List Op} {a st : Int} {op : Op} (r : Rdy p s k ops a st op) (hk : op.kind = 1) (hs : s.said.length + 1 ≤ 64) : Fits p (onM p [(k : Int)] (sayM s op.arg)) := by
 have hv : isValue op.arg = true := by
   have h := r.ok.2.2.2.2
   rw [Prog.argOk, if_neg (by omega), if_neg (by omega), if_pos (by omega)] at h
   exact h
 exact r.onFits (s1 := sayM s op.arg) (who := []) (fx := []) (fx' := []) (r.ft.shared.of rfl rfl rfl rfl rfl) rfl rfl rfl (by simpa [sayM] using hs)
   (fun v h => by
     rcases List.mem_append.1 h with h | h
     · exact r.ft.said v h
     · simp at h; rw [h]; exact hv)
   (Swap.refl _) (fun _ _ => rfl) (r.own0 (by omega)) (by simp) (fun u hu => by simp at hu) (fun _ _ _ => rfl) rfl
theorem Rdy.sem {p : Prog} {s : State} {k : Nat} {ops : List Op} {a st : Int} {op : Op} (r : Rdy p s k ops a st op) (hk : op.kind = 2 ∨ op.kind = 3) :
   ∃ x, s.sems[op.on.toNat]? = some x ∧ semAt s op = x ∧ SemOk x ∧ 1 ≤ op.arg ∧ op.arg ≤ x.limit ∧ ((op.on.toNat : Nat) : Int) = op.on := by
 obtain ⟨_, _, o0, o1, h5⟩ := r.ok
 rw [Prog.argOk, if_pos hk] at h5
 rw [Prog.shared, if_neg (by omega), if_pos hk, ← r.ft.lsems] at o1
 have hi : op.on.toNat < s.sems.length := by omega
 have hx : s.sems[op.on.toNat]? = some s.sems[op.on.toNat] := List.getElem?_eq_getElem hi
 obtain ⟨g1, g2⟩ := r.ft.sems _ _ hx
 rw [List.getD_eq_getElem?_getD, g2] at h5
 exact ⟨_, hx, by rw [semAt, List.getD_eq_getElem?_getD, hx]; rfl, g1, h5.1, h5.2, by omega⟩
theorem Rdy.once {p : Prog} {s : State} {k : Nat} {ops : List Op} {a st : Int} {op : Op} (r : Rdy p s k ops a st op) (hk : op.kind = 4) :
   ∃ x, s.onces[op.on.toNat]? = some x ∧ onceAt s op = x ∧ OnceOk x ∧ isValue op.arg = true ∧ ((op.on.toNat : Nat) : Int) = op.on := by
 obtain ⟨_, _, o0, o1, h5⟩ := r.ok
 rw [Prog.argOk, if_neg (by omega), if_neg (by omega), if_pos (by omega)] at h5
 rw [Prog.shared, if_neg (by omega), if_neg (by omega), if_pos hk] at o1
 have hl := r.ft.lonces
 have hi : op.on.toNat < s.onces.length := by omega
 have hx : s.onces[op.on.toNat]? = some s.onces[op.on.toNat] := List.getElem?_eq_getElem hi
 exact ⟨_, hx, by rw [onceAt, List.getD_eq_getElem?_getD, hx]; rfl, r.ft.onces _ (List.getElem_mem hi), h5, by omega⟩
theorem Rdy.group {p : Prog} {s : State} {k : Nat} {ops : List Op} {a st : Int} {op : Op} (r : Rdy p s k ops a st op) (hk : op.kind = 5 ∨ op.kind = 6) :
   ∃ x, s.groups[op.on.toNat]? = some x ∧ groupAt s op = x ∧ GroupOk x ∧ (op.kind = 5 → -9 ≤ op.arg ∧ op.arg ≤ 9) ∧ ((op.on.toNat : Nat) : Int) = op.on := by
 obtain ⟨_, _, o0, o1, h5⟩ := r.ok
 rw [Prog.shared, if_neg (by omega), if_neg (by omega), if_neg (by omega), if_pos hk, ← r.ft.lgroups] at o1
 have hi : op.on.toNat < s.groups.length := by omega
 have hx : s.groups[op.on.toNat]? = some s.groups[op.on.toNat] := List.getElem?_eq_getElem hi
 refine ⟨_, hx, by rw [groupAt, List.getD_eq_getElem?_getD, hx]; rfl, r.ft.groups _ (List.getElem_mem hi), fun e => ?_, by omega⟩
 rw [Prog.argOk, if_neg (by omega), if_pos e] at h5
 exact h5
theorem Rdy.barrier {p : Prog} {s : State} {k : Nat} {ops : List Op} {a st : Int} {op : Op} (r : Rdy p s k ops a st op) (hk : op.kind = 7) :
   ∃ x, s.barriers[op.on.toNat]? = some x ∧ barrierAt s op = x ∧ BarrierOk x ∧ ((op.on.toNat : Nat) : Int) = op.on := by
 obtain ⟨_, _, o0, o1, _⟩ := r.ok
 rw [Prog.shared, if_neg (by omega), if_neg (by omega), if_neg (by omega), if_neg (by omega), if_pos hk, ← r.ft.lbarriers] at o1
 have hi : op.on.toNat < s.barriers.length := by omega
 have hx : s.barriers[op.on.toNat]? = some s.barriers[op.on.toNat] := List.getElem?_eq_getElem hi
 exact ⟨_, hx, by rw [barrierAt, List.getD_eq_getElem?_getD, hx]; rfl, (r.ft.barriers _ _ hx).1, by omega⟩
theorem Rdy.chan {p : Prog} {s : State} {k : Nat} {ops : List Op} {a st : Int} {op : Op} (r : Rdy p s k ops a st op) (hk : 8 ≤ op.kind) :
   ∃ x, s.chans[op.on.toNat]? = some x ∧ chanAt s op = x ∧ x.Valid ∧ (op.kind = 8 → isValue op.arg = true) ∧ ((op.on.toNat : Nat) : Int) = op.on := by
 obtain ⟨_, _, o0, o1, h5⟩ := r.ok
 rw [Prog.shared, if_neg (by omega), if_neg (by omega), if_neg (by omega), if_neg (by omega), if_neg (by omega), ← r.ft.lchans] at o1
 have hi : op.on.toNat < s.chans.length := by omega
 have hx : s.chans[op.on.toNat]? = some s.chans[op.on.toNat] := List.getElem?_eq_getElem hi
 refine ⟨_, hx, by rw [chanAt, List.getD_eq_getElem?_getD, hx]; rfl, by have := (r.ft.chans _ _ hx).1; simpa [Chan.valid] using this, fun e => ?_, by omega⟩
 rw [Prog.argOk, if_neg (by omega), if_neg (by omega), if_pos (by omega)] at h5
 exact h5
theorem acquire_fits {p : Prog} {s : State} {k : Nat} {ops : List Op} {a st : Int} {op : Op} (r : Rdy p s k ops a st op) (hk : op.kind = 2) : Fits p (doAcquire p s k op) := by
 obtain ⟨x, hx, hxa, ok, a1, a2, hi⟩ := r.sem (.inl hk)
 have sw := fun x' => swap_sems hx x'
 have hn : (k : Int) ∉ x.queue.map (·.t) := ofKey_map_nil.1 ((sw x).none r.ev)
 rw [doAcquire, hxa, Sem.acquire]
 by_cases hc : x.queue = [] ∧ op.arg ≤ x.free
 · rw [if_pos hc]
   simp only [if_true]
   have := ok.fl
   exact r.onFits (s1 := setSem s op _) (who := []) (r.ft.shared.setSem (s := s) hx (x' := { x with free := x.free - op.arg }) ⟨ok.l1, ok.l9, by show 0 ≤ x.free - op.arg; omega, by show x.free - op.arg ≤ x.limit; omega, ok.q6, ok.cnt, ok.dis, fun w hw => by rw [show ({ x with free := x.free - op.arg } : Sem).queue = [] from hc.1] at hw; simp at hw⟩ rfl) rfl rfl rfl r.ft.lsaid r.ft.said
     (sw _) (fun _ _ => rfl) (r.own0 (by omega)) (by simp) (fun u hu => by simp at hu) (fun _ _ _ => rfl) ((sw x).none r.ev)
 · rw [if_neg hc]
   simp only [Bool.false_eq_true, if_false]
   have hok : SemOk { x with queue := x.queue ++ [⟨(k : Int), op.arg⟩] } := by
     have hdis : distinct ((x.queue ++ [(⟨(k : Int), op.arg⟩ : Waiter)]).map (·.t)) = true := by
       rw [List.map_append]; exact distinct_snoc ok.dis r.thr hn
     refine ⟨ok.l1, ok.l9, ok.f0, ok.fl, by have := distinct_len hdis; simpa using this, fun w hw => ?_, hdis, fun w hw => ?_⟩
     · rcases List.mem_append.1 hw with hw | hw
       · exact ok.cnt w hw
       · simp at hw; subst hw; exact ⟨a1, a2⟩
     · by_cases h0 : x.queue = []
       · have h1 : ¬ op.arg ≤ x.free := fun h => hc ⟨h0, h⟩
         simp [h0] at hw
         subst hw
         show x.free < op.arg
         omega
       · obtain ⟨y, q, hq⟩ := List.exists_cons_of_ne_nil h0
         refine ok.hd w ?_
         rw [hq] at hw ⊢
         simpa using hw
   have hadd : ∀ u, ofKey (evSem op.on.toNat { x with queue := x.queue ++ [⟨(k : Int), op.arg⟩] }) u = ofKey (evSem op.on.toNat x) u ++ (if (k : Int) = u then [⟨2, op.on, op.arg⟩] else []) := fun u => by
     simp only [evSem, List.map_append, ofKey_append, List.map_cons, List.map_nil, ofKey_one, hi]
   refine r.waitFits (s1 := setSem s op _) (b := 1) (r.ft.shared.setSem (s := s) hx hok rfl) rfl rfl rfl rfl (sw _) (fun _ _ => rfl) (fun u hu => ?_) (.inl ⟨rfl, ?_, r.own0 (by omega)⟩)
   · rw [hadd, if_neg (fun h => hu h.symm), List.append_nil]
   · rw [hadd, if_pos rfl, (sw x).none r.ev, want, if_pos (by omega), hk]; rfl
theorem handL_ok : ∀ (q : List Waiter) (f : Int), 0 ≤ f → (∀ w ∈ q, 1 ≤ w.n) → ∃ n, (handL f q).2.2 = q.drop n ∧ (handL f q).2.1 = (q.take n).map (·.t) ∧ 0 ≤ (handL f q).1 ∧ (handL f q).1 ≤ f ∧ ∀ w, (q.drop n)[0]? = some w → (handL f q).1 < w.n
 | [], f, h0, _ => ⟨0, rfl, rfl, h0, by simp [handL], by simp⟩
 | w :: q, f, h0, hc => by
   have h1 := hc w (by simp)
   rw [handL]
   by_cases e : w.n ≤ f
   · rw [if_pos e]
     obtain ⟨n, i1, i2, i3, i4, i5⟩ := handL_ok q (f - w.n) (by omega) (fun y hy => hc y (List.mem_cons_of_mem _ hy))
     exact ⟨n + 1, by simpa using i1, by simp [i2], i3, by show (handL (f - w.n) q).1 ≤ f; omega, by simpa using i5⟩
   · rw [if_neg e]
     exact ⟨0, rfl, rfl, h0, Int.le_refl _, fun y hy => by simp at hy; subst hy; show f < w.n; omega⟩
theorem release_fits {p : Prog} {s : State} {k : Nat} {ops : List Op} {a st : Int} {op : Op} (r : Rdy p s k ops a st op) (hk : op.kind = 3) : Fits p (doRelease p s k op) := by
 obtain ⟨x, hx, hxa, ok, a1, a2, hi⟩ := r.sem (.inr hk)
 have sw := fun x' => swap_sems hx x'
 rw [doRelease, hxa, Sem.release]
 by_cases hc : op.arg ≤ x.limit - x.free
 · rw [if_pos hc]
   have f0 := ok.f0
   obtain ⟨n, i1, i2, i3, i4, i5⟩ := handL_ok x.queue (x.free + op.arg) (by omega) (fun w hw => (ok.cnt w hw).1)
   simp only [i1, i2]
   have nd := distinct_nd ok.dis
   obtain ⟨t1, t2⟩ := taken (·.t) (fun w : Waiter => (⟨2, (op.on.toNat : Int), w.n⟩ : Waiting)) x.queue n nd
   have hsub : ((x.queue.drop n).map (·.t)).Sublist (x.queue.map (·.t)) := (List.drop_sublist _ _).map _
   refine r.onFits (s1 := setSem s op _) (who := (x.queue.take n).map (·.t)) (r.ft.shared.setSem (s := s) hx (x' := ⟨(handL (x.free + op.arg) x.queue).1, x.limit, x.queue.drop n⟩) ⟨ok.l1, ok.l9, i3, by show (handL (x.free + op.arg) x.queue).1 ≤ x.limit; omega, by have := ok.q6; show (x.queue.drop n).length ≤ 6; rw [List.length_drop]; omega, fun w hw => ok.cnt w (List.mem_of_mem_drop hw), distinct_sub hsub ok.dis, i5⟩ rfl) rfl rfl rfl r.ft.lsaid r.ft.said
     (sw _) (fun _ _ => rfl) (r.own0 (by omega)) (nd.sublist ((List.take_sublist _ _).map _)) t1 (fun u hu _ => t2 u hu) ?_
   have h0 := (sw x).none r.ev
   by_cases hm : (k : Int) ∈ (x.queue.take n).map (·.t)
   · exact (t1 _ hm).2
   · exact (t2 _ hm).trans h0
 · rw [if_neg hc]
   exact r.ft.fault (by omega) (by omega)
theorem add_fits {p : Prog} {s : State} {k : Nat} {ops : List Op} {a st : Int} {op : Op} (r : Rdy p s k ops a st op) (hk : op.kind = 5) : Fits p (doAdd p s k op) := by
 obtain ⟨x, hx, hxa, ⟨ok1, ok2, ok3⟩, ha, hi⟩ := r.group (.inl hk)
 have sw := fun x' => swap_groups hx x'
 have nd := distinct_nd ok2
 rw [doAdd, hxa, Group.add]
 by_cases hc : isValue (x.count + op.arg) = true
 · rw [if_pos hc]
   by_cases h0 : x.count + op.arg = 0
   · rw [if_pos h0]
     obtain ⟨t1, t2⟩ := taken (fun t : Int => t) (fun t : Int => (⟨6, (op.on.toNat : Int), 0⟩ : Waiting)) x.waits x.waits.length (by simpa using nd)
     simp only [List.take_length, List.drop_length, List.map_id'] at t1 t2
     refine r.onFits (s1 := setGroup s op ⟨0, []⟩) (who := x.waits) (r.ft.shared.setGroup (s := s) ⟨by decide, by decide, .inr rfl⟩) rfl rfl rfl r.ft.lsaid r.ft.said
       (sw _) (fun _ _ => rfl) (r.own0 (by omega)) nd t1 (fun u hu _ => t2 u hu) rfl
   · rw [if_neg h0]
     have hv : 0 < x.count + op.arg := by simp [isValue] at hc; omega
     exact r.onFits (s1 := setGroup s op ⟨x.count + op.arg, x.waits⟩) (who := []) (r.ft.shared.setGroup (s := s) ⟨hc, ok2, .inl hv⟩) rfl rfl rfl r.ft.lsaid r.ft.said
       (sw _) (fun _ _ => rfl) (r.own0 (by omega)) (by simp) (fun u hu => by simp at hu) (fun _ _ _ => rfl) ((sw x).none r.ev)
 · rw [if_neg hc]
   exact r.ft.fault (by omega) (by omega)
theorem wait_fits {p : Prog} {s : State} {k : Nat} {ops : List Op} {a st : Int} {op : Op} (r : Rdy p s k ops a st op) (hk : op.kind = 6) : Fits p (doWait p s k op) := by
 obtain ⟨x, hx, hxa, ⟨ok1, ok2, ok3⟩, ha, hi⟩ := r.group (.inr hk)
 have sw := fun x' => swap_groups hx x'
 have hn : (k : Int) ∉ x.waits := by
   have h := (ofKey_map_nil (g := fun t : Int => t)).1 ((sw x).none r.ev)
   simpa using h
 rw [doWait, hxa, Group.wait]
 by_cases hc : x.count = 0
 · rw [if_pos hc]
   simp only [if_true]
   have hw : x.waits = [] := by
     rcases ok3 with h | h
     · omega
     · exact h
   have he : evGroup op.on.toNat x = [] := by simp [evGroup, hw]
   exact r.onFits (s1 := setGroup s op ⟨0, []⟩) (who := []) (r.ft.shared.setGroup (s := s) ⟨by decide, by decide, .inr rfl⟩) rfl rfl rfl r.ft.lsaid r.ft.said
     (sw _) (fun _ _ => rfl) (r.own0 (by omega)) (by simp) (fun u hu => by simp at hu) (fun _ _ _ => by rw [he]; rfl) rfl
 · rw [if_neg hc]
   simp only [Bool.false_eq_true, if_false]
   have hadd : ∀ u, ofKey (evGroup op.on.toNat ⟨x.count, x.waits ++ [(k : Int)]⟩) u = ofKey (evGroup op.on.toNat x) u ++ (if (k : Int) = u then [⟨6, op.on, 0⟩] else []) := fun u => by
     simp only [evGroup, List.map_append, ofKey_append, List.map_cons, List.map_nil, ofKey_one, hi]
   have hv : 0 < x.count := by simp [isValue] at ok1; omega
   refine r.waitFits (s1 := setGroup s op _) (b := 1) (r.ft.shared.setGroup (s := s) ⟨ok1, distinct_snoc ok2 r.thr hn, .inl hv⟩) rfl rfl rfl rfl (sw _) (fun _ _ => rfl) (fun u hu => ?_) (.inl ⟨rfl, ?_, r.own0 (by omega)⟩)
   · rw [hadd, if_neg (fun h => hu h.symm), List.append_nil]
   · rw [hadd, if_pos rfl, (sw x).none r.ev, want, if_neg (by omega), hk]; rfl
theorem arrive_fits {p : Prog} {s : State} {k : Nat} {ops : List Op} {a st : Int} {op : Op} (r : Rdy p s k ops a st op) (hk : op.kind = 7) (hw : (barrierAt s op).arrive k ≠ none) : Fits p (doArrive p s k op) := by
 obtain ⟨x, hx, hxa, ⟨p1, p6, r0, r9, wl, dis⟩, hi⟩ := r.barrier hk
 have sw := fun x' => swap_barriers hx x'
 have nd := distinct_nd dis
 have hn : (k : Int) ∉ x.waits := by
   have h := (ofKey_map_nil (g := fun t : Int => t)).1 ((sw x).none r.ev)
   simpa using h
 rw [hxa, Barrier.arrive] at hw
 rw [doArrive, hxa, Barrier.arrive]
 by_cases hc : (x.waits.length : Int) + 1 < x.parties
 · rw [if_pos hc]
   simp only [if_true]
   have hadd : ∀ u, ofKey (evBarrier op.on.toNat ⟨x.parties, x.round, x.waits ++ [(k : Int)]⟩) u = ofKey (evBarrier op.on.toNat x) u ++ (if (k : Int) = u then [⟨7, op.on, 0⟩] else []) := fun u => by
     simp only [evBarrier, List.map_append, ofKey_append, List.map_cons, List.map_nil, ofKey_one, hi]
   refine r.waitFits (s1 := setBarrier s op _) (b := 1) (r.ft.shared.setBarrier (s := s) hx (x' := ⟨x.parties, x.round, x.waits ++ [(k : Int)]⟩) ⟨p1, p6, r0, r9, by simpa using hc, distinct_snoc dis r.thr hn⟩ rfl) rfl rfl rfl rfl (sw _) (fun _ _ => rfl) (fun u hu => ?_) (.inl ⟨rfl, ?_, r.own0 (by omega)⟩)
   · rw [hadd, if_neg (fun h => hu h.symm), List.append_nil]
   · rw [hadd, if_pos rfl, (sw x).none r.ev, want, if_neg (by omega), hk]; rfl
 · rw [if_neg hc] at hw ⊢
   by_cases h9 : x.round = 9999
   · rw [if_pos h9] at hw; exact (hw rfl).elim
   · rw [if_neg h9]
     have hne : x.waits ++ [(k : Int)] ≠ [] := by simp
     simp only [if_neg hne]
     obtain ⟨t1, t2⟩ := taken (fun t : Int => t) (fun t : Int => (⟨7, (op.on.toNat : Int), 0⟩ : Waiting)) x.waits x.waits.length (by simpa using nd)
     simp only [List.take_length, List.drop_length, List.map_id'] at t1 t2
     exact r.onFits (s1 := setBarrier s op ⟨x.parties, x.round + 1, []⟩) (who := x.waits) (r.ft.shared.setBarrier (s := s) hx ⟨p1, p6, by show 0 ≤ x.round + 1; omega, by show x.round + 1 ≤ 9999; omega, by show ((0 : Nat) : Int) < x.parties; omega, show distinct [] = true by decide⟩ rfl) rfl rfl rfl r.ft.lsaid r.ft.said
       (sw _) (fun _ _ => rfl) (r.own0 (by omega)) nd t1 (fun u hu _ => t2 u hu) rfl
theorem once_fits {p : Prog} {s : State} {k : Nat} {ops : List Op} {a st : Int} {op : Op} (r : Rdy p s k ops a st op) (hk : op.kind = 4) : Fits p (doOnce p s k op) := by
 obtain ⟨x, hx, hxa, ok, hv, hi⟩ := r.once hk
 have sw := fun x' => swap_onces hx x'
 have so := fun x' => swap_own hx x'
 have hn : (k : Int) ∉ x.waits := by
   have h := (ofKey_map_nil (g := fun t : Int => t)).1 ((sw x).none r.ev)
   simpa using h
 have hst : s.status.getD (k : Int).toNat 0 = st := by rw [Int.toNat_natCast, List.getD_eq_getElem?_getD, r.h3]; rfl
 have own1 : ∀ (y : Once) (u : Int), y.state = 1 → ofKey (evOwn op.on.toNat y) u = if y.owner = u then [op.on] else [] := fun y u h => by
   rw [evOwn, if_pos h, ofKey_one, hi]
 have own0 : ∀ (y : Once) (u : Int), y.state ≠ 1 → ofKey (evOwn op.on.toNat y) u = [] := fun y u h => by
   rw [evOwn, if_neg h]; rfl
 rw [doOnce, hxa, hst]
 by_cases h2 : st = 2
 · rw [if_pos h2]
   have hown : ofKey (owners s) k = [op.on] := by
     rcases r.ow with ⟨e, _⟩ | ⟨_, _, e⟩
     · omega
     · exact e
   have hx1 : x.state = 1 ∧ x.owner = k := by
     have hm : op.on ∈ ofKey (owners s) k := by rw [hown]; simp
     obtain ⟨j, y, hy, h1, h2, h3⟩ := owners_mem.1 hm
     have e : op.on.toNat = j := by omega
     rw [← e, hx] at hy
     injection hy with hy
     subst hy
     exact ⟨h1, h2⟩
   have o1 := (onceOk1 hx1.1).1 ok
   have nd := distinct_nd o1.2.2.1
   obtain ⟨t1, t2⟩ := taken (fun t : Int => t) (fun t : Int => (⟨4, (op.on.toNat : Int), 0⟩ : Waiting)) x.waits x.waits.length (by simpa using nd)
   simp only [List.take_length, List.drop_length, List.map_id'] at t1 t2
   refine r.onFits (s1 := setOnce s op ⟨2, (k : Int), op.arg, []⟩) (who := x.waits) (r.ft.shared.setOnce (s := s) ((onceOk2 rfl).2 ⟨r.thr, hv, rfl⟩)) rfl rfl rfl r.ft.lsaid r.ft.said
     (sw _) (fun u hu => (so _).same ?_) ((so _).gone (u := (k : Int)) ?_ ?_ ?_) nd t1 (fun u hu _ => t2 u hu) rfl
   · rw [own0 _ _ (show (2 : Int) ≠ 1 by decide), own1 x u hx1.1, hx1.2, if_neg (fun h => hu h.symm)]
   · rw [own1 x _ hx1.1, hx1.2, if_pos rfl]; simp
   · exact own0 _ _ (show (2 : Int) ≠ 1 by decide)
   · rw [hown]; simp
 rw [if_neg h2]
 have hown : ofKey (owners s) k = [] := by
   rcases r.ow with ⟨_, e⟩ | ⟨e, _⟩
   · exact e
   · exact (h2 e).elim
 rw [Once.enter]
 by_cases e0 : x.state = 0
 · simp only [if_pos e0, if_true]
   have o0 := (onceOk0 e0).1 ok
   have hw : x.waits = [] := o0.2.2
   refine r.waitFits (s1 := setOnce s op ⟨1, (k : Int), 0, []⟩) (b := 2) (r.ft.shared.setOnce (s := s) ((onceOk1 rfl).2 ⟨r.thr, rfl, show distinct [] = true by decide, by simp⟩)) rfl rfl rfl rfl (sw _) (fun u hu => (so _).same ?_) (fun u hu => ?_) (.inr ⟨rfl, rfl, hk, ?_⟩)
   · rw [own0 x u (by omega), own1 _ _ rfl, if_neg (fun h => hu h.symm)]
   · rw [show evOnce op.on.toNat x = [] by simp [evOnce, hw]]; rfl
   · exact ((so _).come hown).trans (by rw [own1 _ _ rfl, if_pos rfl])
 by_cases e1 : x.state = 1
 · simp only [if_neg e0, if_pos e1, if_true, if_neg (show ¬ (1 : Int) = 0 by decide)]
   have o1 := (onceOk1 e1).1 ok
   have hok : (k : Int) ≠ x.owner := fun e => by
     have h := (so x).none hown
     rw [own1 x _ e1, if_pos e.symm] at h
     cases h
   have hadd : ∀ u, ofKey (evOnce op.on.toNat { x with waits := x.waits ++ [(k : Int)] }) u = ofKey (evOnce op.on.toNat x) u ++ (if (k : Int) = u then [⟨4, op.on, 0⟩] else []) := fun u => by
     simp only [evOnce, List.map_append, ofKey_append, List.map_cons, List.map_nil, ofKey_one, hi]
   have hsame : ∀ u, ofKey (evOwn op.on.toNat { x with waits := x.waits ++ [(k : Int)] }) u = ofKey (evOwn op.on.toNat x) u := fun u => rfl
   refine r.waitFits (s1 := setOnce s op { x with waits := x.waits ++ [(k : Int)] }) (b := 1) (r.ft.shared.setOnce (s := s) ((onceOk1 (m := { x with waits := x.waits ++ [(k : Int)] }) e1).2 ⟨o1.1, o1.2.1, distinct_snoc o1.2.2.1 r.thr hn, ?_⟩)) rfl rfl rfl rfl (sw _) (fun u hu => (so _).same (hsame u)) (fun u hu => ?_) (.inl ⟨rfl, ?_, ((so _).same (hsame _)).trans hown⟩)
   · intro hm
     rcases List.mem_append.1 hm with hm | hm
     · exact o1.2.2.2 hm
     · simp at hm; exact hok hm.symm
   · rw [hadd, if_neg (fun h => hu h.symm), List.append_nil]
   · rw [hadd, if_pos rfl, (sw x).none r.ev, want, if_neg (by omega), hk]; rfl
 simp only [if_neg e0, if_neg e1, if_neg (show ¬ (2 : Int) = 0 by decide), if_neg (show ¬ (2 : Int) = 1 by decide)]
 exact r.onFits (s1 := setOnce s op x) (who := []) (r.ft.shared.setOnce (s := s) ok) rfl rfl rfl r.ft.lsaid r.ft.said
   (sw x) (fun u hu => (so x).same rfl) (((so x).same rfl).trans hown) (by simp) (fun u hu => by simp at hu) (fun _ _ _ => rfl) ((sw x).none r.ev)
theorem chan_fx (i : Nat) (x : Chan) (u : Int) : ofKey (evChan i x) u = ofKey (x.senders.map fun l => (l.t, (⟨8, (i : Int), l.v⟩ : Waiting))) u ++ ofKey (x.getters.map fun t => (t, (⟨9, (i : Int), 0⟩ : Waiting))) u := by rw [evChan, ofKey_append]
theorem chan_out {i : Nat} {x : Chan} {u : Int} (h : ofKey (evChan i x) u = []) : u ∉ x.threads := by
 rw [chan_fx, List.append_eq_nil_iff] at h
 intro hm
 rcases List.mem_append.1 hm with hm | hm
 · exact (ofKey_map_nil (g := Letter.t)).1 h.1 hm
 · exact (ofKey_map_nil (g := fun t : Int => t)).1 h.2 (by simpa using hm)
theorem chan_nd {x : Chan} (h : x.Valid) : (x.senders.map (·.t)).Nodup ∧ x.getters.Nodup := by
 have := distinct_nd h.di
 rw [Chan.threads, List.nodup_append] at this
 exact ⟨this.1, this.2.1⟩
theorem valid_of {x : Chan} (h : x.Valid) : x.valid = true := by rw [Chan.valid, decide_eq_true h]
theorem send_fits {p : Prog} {s : State} {k : Nat} {ops : List Op} {a st : Int} {op : Op} (r : Rdy p s k ops a st op) (hk : op.kind = 8) (hl : (doSend p s k op).said.length ≤ 64) : Fits p (doSend p s k op) := by
 obtain ⟨x, hx, hxa, hv, hval, hi⟩ := r.chan (by omega)
 have sw := fun x' => swap_chans hx x'
 have h0 := (sw x).none r.ev
 have hn := chan_out h0
 have nd := chan_nd hv
 rw [doSend, hxa] at hl ⊢
 by_cases hc : (x.send k op.arg).2.2.2 = true
 · have hv' := send_valid hc
   obtain ⟨_, c1, c2, c3, c4⟩ := send_ok hc
   rw [if_pos hc] at hl ⊢
   have hsd : x.send k op.arg = if h : 0 < x.getters.length then ({ x with getters := x.getters.drop 1 }, [x.getters[0]], true, true) else if (x.items.length : Int) < x.room then ({ x with items := x.items ++ [op.arg] }, [], true, true) else ({ x with senders := x.senders ++ [⟨(k : Int), op.arg⟩] }, [], false, true) := by
     rw [Chan.send, if_pos ⟨hv, c1, c2, c3, c4⟩]
   rw [hsd] at hv' hl ⊢
   by_cases hg : 0 < x.getters.length
   · simp only [dif_pos hg, if_true] at hv' hl ⊢
     rw [if_neg (by simp)] at hl ⊢
     have hs : x.senders = [] := Classical.byContradiction fun hne => by rw [(hv.se hne).2.1] at hg; simp at hg
     obtain ⟨t1, t2⟩ := taken (fun t : Int => t) (fun t : Int => (⟨9, (op.on.toNat : Int), 0⟩ : Waiting)) x.getters 1 (by simpa using nd.2)
     have e1 : x.getters.take 1 = [x.getters[0]] := take1 hg
     simp only [e1, List.map_id'] at t1 t2
     have fx : ∀ u, ofKey (evChan op.on.toNat x) u = ofKey (x.getters.map fun t => (t, (⟨9, (op.on.toNat : Int), 0⟩ : Waiting))) u := fun u => by rw [chan_fx, hs]; rfl
     have fx' : ∀ u, ofKey (evChan op.on.toNat { x with getters := x.getters.drop 1 }) u = ofKey ((x.getters.drop 1).map fun t => (t, (⟨9, (op.on.toNat : Int), 0⟩ : Waiting))) u := fun u => by rw [chan_fx]; show ofKey (x.senders.map _) u ++ _ = _; rw [hs]; rfl
     rw [onM_said] at hl
     refine r.onFits (s1 := sayM (setChan s op { x with getters := x.getters.drop 1 }) op.arg) (who := [x.getters[0]]) ((r.ft.shared.setChan (s := s) hx (valid_of hv') rfl).of rfl rfl rfl rfl rfl) rfl rfl rfl hl
       (fun v h => by
         rcases List.mem_append.1 h with h | h
         · exact r.ft.said v h
         · simp at h; rw [h]; exact hval hk)
       (sw _) (fun _ _ => rfl) (r.own0 (by omega)) (by simp) (fun u hu => by rw [fx, fx']; exact t1 u hu) (fun u hu _ => by rw [fx, fx']; exact t2 u hu) ?_
     rw [fx']
     rw [fx] at h0
     by_cases hm : (k : Int) ∈ [x.getters[0]]
     · exact (t1 _ hm).2
     · exact (t2 _ hm).trans h0
   · simp only [dif_neg hg] at hv' hl ⊢
     by_cases hr : (x.items.length : Int) < x.room
     · simp only [if_pos hr, if_true] at hv' hl ⊢
       exact r.onFits (s1 := setChan s op { x with items := x.items ++ [op.arg] }) (who := []) (r.ft.shared.setChan (s := s) hx (valid_of hv') rfl) rfl rfl rfl r.ft.lsaid r.ft.said
         (sw _) (fun _ _ => rfl) (r.own0 (by omega)) (by simp) (fun u hu => by simp at hu) (fun _ _ _ => rfl) h0
     · simp only [if_neg hr, Bool.false_eq_true, if_false] at hv' hl ⊢
       have hadd : ∀ u, ofKey (evChan op.on.toNat { x with senders := x.senders ++ [⟨(k : Int), op.arg⟩] }) u = ofKey (evChan op.on.toNat x) u ++ (if (k : Int) = u then [⟨8, op.on, op.arg⟩] else []) := fun u => by
         have hg' : x.getters = [] := by simpa using hg
         simp only [evChan, hg', List.map_append, ofKey_append, List.map_cons, List.map_nil, ofKey_one, hi, List.append_nil]
       refine r.waitFits (s1 := setChan s op _) (b := 1) (r.ft.shared.setChan (s := s) hx (valid_of hv') rfl) rfl rfl rfl rfl (sw _) (fun _ _ => rfl) (fun u hu => ?_) (.inl ⟨rfl, ?_, r.own0 (by omega)⟩)
       · rw [hadd, if_neg (fun h => hu h.symm), List.append_nil]
       · rw [hadd, if_pos rfl, h0, want, if_pos (by omega), hk]; rfl
 · rw [if_neg hc]
   exact r.ft.fault (by omega) (by omega)
theorem get_fits {p : Prog} {s : State} {k : Nat} {ops : List Op} {a st : Int} {op : Op} (r : Rdy p s k ops a st op) (hk : op.kind = 9) (hl : (doGet p s k op).said.length ≤ 64) : Fits p (doGet p s k op) := by
 obtain ⟨x, hx, hxa, hv, hval, hi⟩ := r.chan (by omega)
 have sw := fun x' => swap_chans hx x'
 have h0 := (sw x).none r.ev
 have hn := chan_out h0
 have nd := chan_nd hv
 have hok : x.Valid ∧ isThread (k : Int) = true ∧ ¬ (k : Int) ∈ x.threads := ⟨hv, r.thr, hn⟩
 have hgt : (x.get k).2.2.2.2 = true := by
   rw [Chan.get, if_pos hok]
   split
   · rfl
   · split <;> rfl
 have hv' := get_valid hgt
 have gv : ∀ y ∈ x.gItems, isValue y = true := fun y hy => by
   rcases List.mem_append.1 hy with hy | hy
   · exact hv.iv y hy
   · obtain ⟨l, hl, rfl⟩ := List.mem_map.1 hy
     exact hv.sv l (List.mem_of_mem_take hl)
 rw [doGet, hxa] at hl ⊢
 have hsd : x.get k = if 0 < x.gItems.length then ({ x with items := x.gItems.drop 1, senders := x.senders.drop 1 }, x.gItems.headD 0, 1, x.gWho, true) else if x.closed = true then ({ x with items := [], senders := [] }, 0, 2, [], true) else ({ x with items := [], senders := [], getters := x.getters ++ [(k : Int)] }, 0, 0, [], true) := by
   rw [Chan.get, if_pos hok]
 rw [hsd] at hv' hl ⊢
 by_cases hc : 0 < x.gItems.length
 · simp only [if_pos hc] at hv' hl ⊢
   rw [if_neg (by decide), if_pos trivial] at hl ⊢
   rw [onM_said] at hl
   obtain ⟨t1, t2⟩ := taken Letter.t (fun l : Letter => (⟨8, (op.on.toNat : Int), l.v⟩ : Waiting)) x.senders 1 nd.1
   have hgw : x.gWho = (x.senders.take 1).map Letter.t := rfl
   rw [← hgw] at t1 t2
   have fx' : ∀ (its : List Int) u, ofKey (evChan op.on.toNat { x with items := its, senders := x.senders.drop 1 }) u = ofKey ((x.senders.drop 1).map fun l => (l.t, (⟨8, (op.on.toNat : Int), l.v⟩ : Waiting))) u ++ ofKey (x.getters.map fun t => (t, (⟨9, (op.on.toNat : Int), 0⟩ : Waiting))) u := fun its u => chan_fx _ _ _
   have hg0 : ∀ u ∈ x.gWho, ofKey (x.getters.map fun t => (t, (⟨9, (op.on.toNat : Int), 0⟩ : Waiting))) u = [] := fun u hu => by
     by_cases hs : x.senders = []
     · rw [hgw, hs] at hu; simp at hu
     · rw [(hv.se hs).2.1]; rfl
   refine r.onFits (s1 := sayM (setChan s op { x with items := x.gItems.drop 1, senders := x.senders.drop 1 }) (x.gItems.headD 0)) (who := x.gWho) ((r.ft.shared.setChan (s := s) hx (valid_of hv') rfl).of rfl rfl rfl rfl rfl) rfl rfl rfl hl
     (fun v h => by
       rcases List.mem_append.1 h with h | h
       · exact r.ft.said v h
       · simp only [List.mem_singleton] at h
         rw [h, head0 hc]; exact gv _ (List.getElem_mem hc))
     (sw _) (fun _ _ => rfl) (r.own0 (by omega)) (nd.1.sublist ((List.take_sublist _ _).map _)) (fun u hu => ⟨fun h => (t1 u hu).1 ?_, by rw [fx', (t1 u hu).2, hg0 u hu]; rfl⟩) (fun u hu _ => by rw [fx', chan_fx, t2 u hu]) ?_
   · rw [chan_fx, List.append_eq_nil_iff] at h; exact h.1
   · rw [chan_fx, List.append_eq_nil_iff] at h0
     rw [fx', h0.2, List.append_nil]
     by_cases hm : (k : Int) ∈ x.gWho
     · exact (t1 _ hm).2
     · exact (t2 _ hm).trans h0.1
 · simp only [if_neg hc] at hv' hl ⊢
   have hI : x.items = [] ∧ x.senders = [] := by
     simp [Chan.gItems] at hc
     refine ⟨hc.1, ?_⟩
     cases hs : x.senders with
     | nil => rfl
     | cons a r => simp [hs] at hc
   by_cases hcl : x.closed = true
   · simp only [if_pos hcl] at hv' hl ⊢
     rw [if_neg (by decide), if_neg (by decide)] at hl ⊢
     have fx : ∀ u, ofKey (evChan op.on.toNat { x with items := [], senders := [] }) u = ofKey (evChan op.on.toNat x) u := fun u => by
       rw [chan_fx, chan_fx, hI.2]
     exact r.onFits (s1 := setChan s op { x with items := [], senders := [] }) (who := []) (r.ft.shared.setChan (s := s) hx (valid_of hv') rfl) rfl rfl rfl r.ft.lsaid r.ft.said
       (sw _) (fun _ _ => rfl) (r.own0 (by omega)) (by simp) (fun u hu => by simp at hu) (fun u _ _ => fx u) ((fx _).trans h0)
   · simp only [if_neg hcl] at hv' hl ⊢
     rw [if_pos trivial] at hl ⊢
     have hadd : ∀ u, ofKey (evChan op.on.toNat { x with items := [], senders := [], getters := x.getters ++ [(k : Int)] }) u = ofKey (evChan op.on.toNat x) u ++ (if (k : Int) = u then [⟨9, op.on, 0⟩] else []) := fun u => by
       simp only [evChan, hI.2, List.map_append, ofKey_append, List.map_cons, List.map_nil, ofKey_one, hi, List.append_assoc]
     refine r.waitFits (s1 := setChan s op _) (b := 1) (r.ft.shared.setChan (s := s) hx (valid_of hv') rfl) rfl rfl rfl rfl (sw _) (fun _ _ => rfl) (fun u hu => ?_) (.inl ⟨rfl, ?_, r.own0 (by omega)⟩)
     · rw [hadd, if_neg (fun h => hu h.symm), List.append_nil]
     · rw [hadd, if_pos rfl, h0, want, if_neg (by omega), hk]; rfl
theorem close_fits {p : Prog} {s : State} {k : Nat} {ops : List Op} {a st : Int} {op : Op} (r : Rdy p s k ops a st op) (hk : op.kind = 10) : Fits p (doClose p s k op) := by
 obtain ⟨x, hx, hxa, hv, hval, hi⟩ := r.chan (by omega)
 have sw := fun x' => swap_chans hx x'
 have h0 := (sw x).none r.ev
 have nd := chan_nd hv
 rw [doClose, hxa]
 by_cases hc : x.close.2.2 = true
 · have hv' := close_valid hc
   obtain ⟨_, c1, c2⟩ := close_ok hc
   rw [if_pos hc]
   have hsd : x.close = ({ x with senders := [], getters := [], closed := true }, x.getters, true) := by
     rw [Chan.close, if_pos ⟨hv, c1, c2⟩]
   rw [hsd] at hv' ⊢
   obtain ⟨t1, t2⟩ := taken (fun t : Int => t) (fun t : Int => (⟨9, (op.on.toNat : Int), 0⟩ : Waiting)) x.getters x.getters.length (by simpa using nd.2)
   simp only [List.take_length, List.drop_length, List.map_id'] at t1 t2
   have fx : ∀ u, ofKey (evChan op.on.toNat x) u = ofKey (x.getters.map fun t => (t, (⟨9, (op.on.toNat : Int), 0⟩ : Waiting))) u := fun u => by rw [chan_fx, c2]; rfl
   exact r.onFits (s1 := setChan s op { x with senders := [], getters := [], closed := true }) (who := x.getters) (r.ft.shared.setChan (s := s) hx (valid_of hv') rfl) rfl rfl rfl r.ft.lsaid r.ft.said
     (sw _) (fun _ _ => rfl) (r.own0 (by omega)) nd.2 (fun u hu => ⟨by rw [fx]; exact (t1 u hu).1, rfl⟩) (fun u hu _ => by rw [fx]; exact t2 u hu) rfl
 · rw [if_neg hc]
   exact r.ft.fault (by omega) (by omega)
theorem step_fits {p : Prog} {s : State} {t : Int} (ft : Fits p s) (h : t ∈ readyM s) (hl : (doM p s t).said.length ≤ 64) (hw : ¬ Worn p s t) : Fits p (doM p s t) := by
 obtain ⟨k, ops, a, st, op, rfl, r⟩ := rdy ft h
 rw [Worn, r.at_] at hw
 rw [doM, r.at_, doOp] at hl ⊢
 by_cases k1 : op.kind = 1
 · simp only [if_pos k1] at hl ⊢
   rw [onM_said] at hl
   exact say_fits r k1 (by simpa [sayM] using hl)
 by_cases k2 : op.kind = 2
 · simp only [if_neg k1, if_pos k2] at hl ⊢; exact acquire_fits r k2
 by_cases k3 : op.kind = 3
 · simp only [if_neg k1, if_neg k2, if_pos k3] at hl ⊢; exact release_fits r k3
 by_cases k4 : op.kind = 4
 · simp only [if_neg k1, if_neg k2, if_neg k3, if_pos k4] at hl ⊢; exact once_fits r k4
 by_cases k5 : op.kind = 5
 · simp only [if_neg k1, if_neg k2, if_neg k3, if_neg k4, if_pos k5] at hl ⊢; exact add_fits r k5
 by_cases k6 : op.kind = 6
 · simp only [if_neg k1, if_neg k2, if_neg k3, if_neg k4, if_neg k5, if_pos k6] at hl ⊢; exact wait_fits r k6
 by_cases k7 : op.kind = 7
 · simp only [if_neg k1, if_neg k2, if_neg k3, if_neg k4, if_neg k5, if_neg k6, if_pos k7] at hl ⊢
   exact arrive_fits r k7 fun e => hw ⟨k7, e⟩
 by_cases k8 : op.kind = 8
 · simp only [if_neg k1, if_neg k2, if_neg k3, if_neg k4, if_neg k5, if_neg k6, if_neg k7, if_pos k8] at hl ⊢; exact send_fits r k8 hl
 by_cases k9 : op.kind = 9
 · simp only [if_neg k1, if_neg k2, if_neg k3, if_neg k4, if_neg k5, if_neg k6, if_neg k7, if_neg k8, if_pos k9] at hl ⊢; exact get_fits r k9 hl
 simp only [if_neg k1, if_neg k2, if_neg k3, if_neg k4, if_neg k5, if_neg k6, if_neg k7, if_neg k8, if_neg k9] at hl ⊢
 have h10 := r.ok.2.1
 have h11 := r.ok.1
 exact close_fits r (by omega)
theorem worn_no {p : Prog} {s : State} {t : Int} (ft : Fits p s) (h : t ∈ readyM s) (hw : Worn p s t) : ¬ Fits p (doM p s t) := by
 obtain ⟨k, ops, a, st, op, rfl, r⟩ := rdy ft h
 rw [Worn, r.at_] at hw
 obtain ⟨k7, hw⟩ := hw
 obtain ⟨x, hx, hxa, ok, hi⟩ := r.barrier k7
 have e : doM p s (k : Int) = waitM (setBarrier s op ⟨0, 0, []⟩) k 1 := by
   simp only [doM, r.at_, doOp, k7, doArrive, hw]
   simp
 rw [e]
 intro f
 have hi : op.on.toNat < s.barriers.length := (List.getElem?_eq_some_iff.1 hx).1
 have h1 := (f.barriers op.on.toNat ⟨0, 0, []⟩ (by simp [waitM, setBarrier, hi])).1.1
 simp at h1
def StepOk (p : Prog) (s : State) (t : Int) : Prop := Fits p s ∧ t ∈ readyM s ∧ (doM p s t).said.length ≤ 64 ∧ Fits p (doM p s t)
theorem stepOk_iff {p : Prog} {s : State} {t : Int} : StepOk p s t ↔ Fits p s ∧ t ∈ readyM s ∧ (doM p s t).said.length ≤ 64 ∧ ¬ Worn p s t :=
 ⟨fun ⟨h1, h2, h3, h4⟩ => ⟨h1, h2, h3, fun hw => worn_no h1 h2 hw h4⟩, fun ⟨h1, h2, h3, h4⟩ => ⟨h1, h2, h3, step_fits h1 h2 h3 h4⟩⟩
def innerL (a : List SemH) (b : List OnceH) (c : List GroupH) (d : List BarrierH) (e : List ChanH) : List Fct := a.flatMap semO ++ (b.flatMap onceO ++ (c.flatMap groupO ++ (d.flatMap barrierO ++ e.flatMap chanO)))
def innerO (y : StateH) : List Fct := innerL y.sems y.onces y.groups y.barriers y.chans
def outerO (y : StateH) : List Fct := [own y.h0 3 cInt 1 y.places, own y.h1 3 cInt 1 y.status, own y.h2 57 cSemH 3 y.sems, own y.h3 70 cOnceH 4 y.onces, own y.h4 74 cGroupH 2 y.groups, own y.h5 65 cBarrierH 3 y.barriers, own y.h6 80 cChanH 5 y.chans, own y.h7 3 cInt 1 y.said]
theorem permMid {α : Type} (x : α) (A B L : List α) (h : (A ++ B).Perm L) : (A ++ (x :: B)).Perm (x :: L) := List.perm_middle.trans (.cons x h)
theorem perm8 {α : Type} (a0 a1 a2 a3 a4 a5 a6 a7 : α) (A B C D E : List α) : (a0 :: a1 :: ((a2 :: A) ++ ((a3 :: B) ++ ((a4 :: C) ++ ((a5 :: D) ++ ((a6 :: E) ++ [a7])))))).Perm ([a0, a1, a2, a3, a4, a5, a6, a7] ++ (A ++ (B ++ (C ++ (D ++ E))))) := by
 simp only [List.cons_append, List.nil_append]
 refine .cons a0 (.cons a1 (.cons a2 (permMid a3 A _ _ ?_)))
 rw [← List.append_assoc]
 refine permMid a4 _ _ _ ?_
 rw [← List.append_assoc]
 refine permMid a5 _ _ _ ?_
 rw [← List.append_assoc]
 refine permMid a6 _ _ _ ?_
 rw [← List.append_assoc]
 refine permMid a7 _ _ _ ?_
 exact .of_eq (by simp [List.append_assoc])
theorem stateO_perm (y : StateH) : (stateO y).Perm (outerO y ++ innerO y) := perm8 _ _ _ _ _ _ _ _ _ _ _ _ _
theorem getR {E : Env} {A : Nat → Nat} {n : Nat} {B : List (Nat × TypeId × Nat)} {M : List ((Nat × Nat) × SV)} {F : List Fct} {w : World} (h : WD E A n B M F w) {G : List Fct} (hG : ∀ g ∈ G, ∃ f ∈ F, Rd f g.aged) : (fR G).P w ∧ ∀ b, (fR G).foot b → b < w.heap.size := by
 refine ⟨fun g hg => ?_, ?_⟩
 · obtain ⟨g0, hg0, rfl⟩ := List.mem_map.1 hg
   obtain ⟨f, hf, hr⟩ := hG g0 hg0
   exact hr.p w (h.fct f hf).1
 · rintro b ⟨g, hg, hb⟩
   obtain ⟨g0, hg0, rfl⟩ := List.mem_map.1 hg
   obtain ⟨f, hf, hr⟩ := hG g0 hg0
   exact ((h.fct f hf).2.1 b (hr.foot b hb)).1
theorem flat_set {α : Type} {f : α → List Fct} {xs : List α} {i : Nat} {x : α} {g : Fct} (h : g ∈ (xs.set i x).flatMap f) : g ∈ xs.flatMap f ∨ g ∈ f x := by
 obtain ⟨z, hz, hg⟩ := List.mem_flatMap.1 h
 rcases List.mem_or_eq_of_mem_set hz with hz | rfl
 · exact .inl (List.mem_flatMap.2 ⟨z, hz, hg⟩)
 · exact .inr hg
theorem inner_sem {a b c d e i x g} (h : g ∈ innerL (a.set i x) b c d e) : g ∈ innerL a b c d e ∨ g ∈ semO x := by
 rcases List.mem_append.1 h with h | h
 · exact (flat_set h).imp (fun h => List.mem_append_left _ h) id
 · exact .inl (List.mem_append_right _ h)
theorem inner_once {a b c d e i x g} (h : g ∈ innerL a (b.set i x) c d e) : g ∈ innerL a b c d e ∨ g ∈ onceO x := by
 rcases List.mem_append.1 h with h | h
 · exact .inl (List.mem_append_left _ h)
 rcases List.mem_append.1 h with h | h
 · exact (flat_set h).imp (fun h => List.mem_append_right _ (List.mem_append_left _ h)) id
 · exact .inl (List.mem_append_right _ (List.mem_append_right _ h))
theorem inner_group {a b c d e i x g} (h : g ∈ innerL a b (c.set i x) d e) : g ∈ innerL a b c d e ∨ g ∈ groupO x := by
 rcases List.mem_append.1 h with h | h
 · exact .inl (List.mem_append_left _ h)
 rcases List.mem_append.1 h with h | h
 · exact .inl (List.mem_append_right _ (List.mem_append_left _ h))
 rcases List.mem_append.1 h with h | h
 · exact (flat_set h).imp (fun h => List.mem_append_right _ (List.mem_append_right _ (List.mem_append_left _ h))) id
 · exact .inl (List.mem_append_right _ (List.mem_append_right _ (List.mem_append_right _ h)))
theorem inner_barrier {a b c d e i x g} (h : g ∈ innerL a b c (d.set i x) e) : g ∈ innerL a b c d e ∨ g ∈ barrierO x := by
 rcases List.mem_append.1 h with h | h
 · exact .inl (List.mem_append_left _ h)
 rcases List.mem_append.1 h with h | h
 · exact .inl (List.mem_append_right _ (List.mem_append_left _ h))
 rcases List.mem_append.1 h with h | h
 · exact .inl (List.mem_append_right _ (List.mem_append_right _ (List.mem_append_left _ h)))
 rcases List.mem_append.1 h with h | h
 · exact (flat_set h).imp (fun h => List.mem_append_right _ (List.mem_append_right _ (List.mem_append_right _ (List.mem_append_left _ h)))) id
 · exact .inl (List.mem_append_right _ (List.mem_append_right _ (List.mem_append_right _ (List.mem_append_right _ h))))
theorem inner_chan {a b c d e i x g} (h : g ∈ innerL a b c d (e.set i x)) : g ∈ innerL a b c d e ∨ g ∈ chanO x := by
 rcases List.mem_append.1 h with h | h
 · exact .inl (List.mem_append_left _ h)
 rcases List.mem_append.1 h with h | h
 · exact .inl (List.mem_append_right _ (List.mem_append_left _ h))
 rcases List.mem_append.1 h with h | h
 · exact .inl (List.mem_append_right _ (List.mem_append_right _ (List.mem_append_left _ h)))
 rcases List.mem_append.1 h with h | h
 · exact .inl (List.mem_append_right _ (List.mem_append_right _ (List.mem_append_right _ (List.mem_append_left _ h))))
 · exact (flat_set h).imp (fun h => List.mem_append_right _ (List.mem_append_right _ (List.mem_append_right _ (List.mem_append_right _ h)))) id
theorem Fits.small {p : Prog} {s : State} (h : Fits p s) : s.small20 := by
 have n4 := h.prog.n4
 have e0 := h.np
 have e1 := h.ns
 have e2 := h.lsems
 have e3 := h.lonces
 have e4 := h.lgroups
 have e5 := h.lbarriers
 have e6 := h.lchans
 have e7 := h.lsaid
 have m0 := h.prog.sems.1
 have m1 := h.prog.groups.1
 have m2 := h.prog.barriers.1
 have m3 := h.prog.rooms.1
 refine ⟨by omega, by omega, ⟨by omega, fun x hx => ?_⟩, ⟨by omega, fun x hx => ?_⟩, ⟨by omega, fun x hx => ?_⟩, ⟨by omega, fun x hx => ?_⟩, ⟨by omega, fun x hx => ?_⟩, by omega⟩
 · obtain ⟨i, hi, rfl⟩ := List.getElem_of_mem hx
   have := (h.sems i _ (List.getElem?_eq_getElem hi)).1.q6
   unfold Sem.small20; omega
 · have := onceOk_len (h.onces x hx)
   unfold Once.small20; omega
 · have := groupOk_len (h.groups x hx)
   unfold Group.small20; omega
 · obtain ⟨i, hi, rfl⟩ := List.getElem_of_mem hx
   have := barrierOk_len (h.barriers i _ (List.getElem?_eq_getElem hi)).1
   unfold Barrier.small20; omega
 · obtain ⟨i, hi, rfl⟩ := List.getElem_of_mem hx
   have hv := (h.chans i _ (List.getElem?_eq_getElem hi)).1
   have h1 := chanOk_len hv
   have h2 : (s.chans[i]).Valid := by simpa [Chan.valid] using hv
   have := h2.it
   have := h2.r1
   refine ⟨by omega, by omega, by omega⟩
theorem release_told {m x1 : Sem} {n : Int} {told : List Int} (ok : SemOk m) (h1 : 1 ≤ n) (h : m.release n = some (x1, told)) : (∀ u ∈ told, u ∈ m.queue.map (·.t)) ∧ told.length ≤ 6 := by
 rw [Sem.release] at h
 split at h
 · obtain ⟨j, i1, i2, _⟩ := handL_ok m.queue (m.free + n) (by have := ok.f0; omega) (fun w hw => (ok.cnt w hw).1)
   injection h with h
   injection h with h2 h3
   rw [i2] at h3
   subst h3
   have := ok.q6
   refine ⟨fun u hu => ?_, by simp; omega⟩
   obtain ⟨w, hw, rfl⟩ := List.mem_map.1 hu
   exact List.mem_map_of_mem (List.mem_of_mem_take hw)
 · cases h
theorem add_told {m x1 : Group} {n : Int} {told : List Int} (ok : GroupOk m) (h : m.add n = some (x1, told)) : (∀ u ∈ told, u ∈ m.waits) ∧ told.length ≤ 6 := by
 have hl := groupOk_len ok
 rw [Group.add] at h
 split at h
 · split at h
   · injection h with h; injection h with h2 h3; subst h3; exact ⟨fun u hu => hu, hl⟩
   · injection h with h; injection h with h2 h3; subst h3; exact ⟨fun u hu => by simp at hu, by simp⟩
 · cases h
theorem arrive_told {m x1 : Barrier} {t : Int} {told : List Int} (ok : BarrierOk m) (h : m.arrive t = some (x1, told)) : (∀ u ∈ told, u ∈ m.waits ∨ u = t) ∧ told.length ≤ 7 := by
 have hl := barrierOk_len ok
 rw [Barrier.arrive] at h
 split at h
 · injection h with h; injection h with h2 h3; subst h3; exact ⟨fun u hu => by simp at hu, by simp⟩
 · split at h
   · cases h
   · injection h with h; injection h with h2 h3; subst h3; exact ⟨fun u hu => by simpa using hu, by simp; omega⟩
theorem send_told {m x1 : Chan} {t v : Int} {told : List Int} {b1 b2 : Bool} (h : m.send t v = (x1, told, b1, b2)) : (∀ u ∈ told, u ∈ m.threads) ∧ told.length ≤ 1 ∧ (b1 = false → told = []) := by
 rw [Chan.send] at h
 split at h
 · split at h
   · rename_i hg
     simp only [Prod.mk.injEq] at h
     obtain ⟨_, rfl, rfl, _⟩ := h
     refine ⟨fun u hu => ?_, by simp, fun e => by cases e⟩
     obtain rfl := List.mem_singleton.1 hu
     exact List.mem_append_right _ (List.getElem_mem hg)
   · split at h
     · simp only [Prod.mk.injEq] at h
       obtain ⟨_, rfl, rfl, _⟩ := h
       exact ⟨fun u hu => by simp at hu, by simp, fun e => by cases e⟩
     · simp only [Prod.mk.injEq] at h
       obtain ⟨_, rfl, rfl, _⟩ := h
       exact ⟨fun u hu => by simp at hu, by simp, fun _ => rfl⟩
 · simp only [Prod.mk.injEq] at h
   obtain ⟨_, rfl, rfl, _⟩ := h
   exact ⟨fun u hu => by simp at hu, by simp, fun _ => rfl⟩
theorem get_told {m x1 : Chan} {t v c : Int} {told : List Int} {b2 : Bool} (h : m.get t = (x1, v, c, told, b2)) : (∀ u ∈ told, u ∈ m.threads) ∧ told.length ≤ 1 ∧ (c = 0 ∨ c = 1 ∨ c = 2) ∧ (c = 0 → told = []) := by
 rw [Chan.get] at h
 split at h
 · split at h
   · simp only [Prod.mk.injEq] at h
     obtain ⟨_, _, rfl, rfl, _⟩ := h
     refine ⟨fun u hu => ?_, by simp [Chan.gWho]; omega, by omega, fun e => by omega⟩
     obtain ⟨l, hl, rfl⟩ := List.mem_map.1 hu
     exact List.mem_append_left _ (List.mem_map_of_mem (List.mem_of_mem_take hl))
   · split at h
     · simp only [Prod.mk.injEq] at h
       obtain ⟨_, _, rfl, rfl, _⟩ := h
       exact ⟨fun u hu => by simp at hu, by simp, by omega, fun _ => rfl⟩
     · simp only [Prod.mk.injEq] at h
       obtain ⟨_, _, rfl, rfl, _⟩ := h
       exact ⟨fun u hu => by simp at hu, by simp, by omega, fun _ => rfl⟩
 · simp only [Prod.mk.injEq] at h
   obtain ⟨_, _, rfl, rfl, _⟩ := h
   exact ⟨fun u hu => by simp at hu, by simp, by omega, fun _ => rfl⟩
theorem close_told {m x1 : Chan} {told : List Int} {b2 : Bool} (hv : m.Valid) (h : m.close = (x1, told, b2)) : (∀ u ∈ told, u ∈ m.threads) ∧ told.length ≤ 6 := by
 have hl := hv.len
 rw [Chan.close] at h
 split at h
 · simp only [Prod.mk.injEq] at h
   obtain ⟨_, rfl, _⟩ := h
   exact ⟨fun u hu => List.mem_append_right _ hu, by omega⟩
 · simp only [Prod.mk.injEq] at h
   obtain ⟨_, rfl, _⟩ := h
   exact ⟨fun u hu => by simp at hu, by simp⟩
theorem Chan.Valid.small {m : Chan} (hv : m.Valid) : m.small := by
 have := hv.len
 exact ⟨by omega, by omega, by omega⟩
theorem Rdy.owner {p : Prog} {s : State} {k : Nat} {ops : List Op} {a st : Int} {op : Op} (r : Rdy p s k ops a st op) {x : Once} (hx : s.onces[op.on.toNat]? = some x) (hi : ((op.on.toNat : Nat) : Int) = op.on) (h2 : st = 2) : x.state = 1 ∧ x.owner = k := by
 have hown : ofKey (owners s) k = [op.on] := by
   rcases r.ow with ⟨e, _⟩ | ⟨_, _, e⟩
   · omega
   · exact e
 have hm : op.on ∈ ofKey (owners s) k := by rw [hown]; simp
 obtain ⟨j, y, hy, h1, h2, h3⟩ := owners_mem.1 hm
 have e : op.on.toNat = j := by omega
 rw [← e, hx] at hy
 injection hy with hy
 subst hy
 exact ⟨h1, h2⟩
theorem Rdy.stranger {p : Prog} {s : State} {k : Nat} {ops : List Op} {a st : Int} {op : Op} (r : Rdy p s k ops a st op) {x : Once} (hx : s.onces[op.on.toNat]? = some x) (h2 : st ≠ 2) : x.state = 1 → x.owner ≠ k := by
 intro h1 he
 have hown : ofKey (owners s) k = [] := by
   rcases r.ow with ⟨_, e⟩ | ⟨e, _⟩
   · exact e
   · exact (h2 e).elim
 have : ((op.on.toNat : Nat) : Int) ∈ ofKey (owners s) k := owners_mem.2 ⟨_, x, hx, h1, he, rfl⟩
 rw [hown] at this
 cases this
set_option maxHeartbeats 4000000 in
set_option maxRecDepth 100000 in
theorem readyS_c (s : StateH) (w : World) (h : At w [fR (stateO s)]) (hb : s.status.length ≤ 1048576) :
   Calls Tryz.prog 75 #[stateV s] w (Ret w fun v L => ∃ y : Sl, v = y.val (readyM s.pure).length ∧ L = [own y 3 cInt 1 (readyM s.pure)]) := by
 refine calls1 Tryz.func75 rfl tabOk w _ rfl _ rfl _ h ⟨rfl, rfl, trivial⟩ _ (by decide) ?_
 refine AllSl.mk fun y0 => ?_
 refine LoopW.mk ⟨{ q : Nat × Sl × List Int // q.1 ≤ s.status.length ∧ q.2.2 = evL evReady 0 (s.status.take q.1) ∧ (q.1 = 0 ∨ s.fault = 0) },
   fun q => .mk [(1, .p 0 0), (3, .v (q.1.2.1.val q.1.2.2.length)), (4, .v (.int .i64 (q.1.1 : Int)))] 1 0 [(0, 30, 9)] [((0, 1), .v (s.h1.val s.status.length)), ((0, 8), .v (.int .i64 s.fault))] [own q.1.2.1 3 cInt 1 q.1.2.2, fR (stateO s)],
   fun q => s.status.length - q.1.1, ⟨(0, y0, []), Nat.zero_le _, rfl, .inl rfl⟩, ?_, ?_⟩
 · exact weak_mk [0, 1] zw2 zw0 zw2 zw5 zw4 rfl rfl
 rintro ⟨⟨k, y, xs⟩, hk, hx, hkf⟩
 simp only at hk hx hkf
 have hend : s.status.length ≤ k ∨ ¬ s.fault = 0 → readyM s.pure = xs := fun hn => by
   by_cases f0 : s.fault = 0
   · rw [readyM, if_pos (show s.pure.fault = 0 from f0), hx, List.take_of_length_le (hn.resolve_right fun h => h f0)]; rfl
   · rw [readyM, if_neg (show ¬ s.pure.fault = 0 from f0), hx, hkf.resolve_right f0]; rfl
 apply CaseB.mk <;> intro g
 · have hlt : k < s.status.length := by simpa using g
   apply CaseB.mk <;> intro g
   · have f0 : s.fault = 0 := by simpa using g
     have hw := e_succ k _ hlt (by omega)
     have hsucc := evL_succ evReady s.status hlt
     have hl : xs.length ≤ 1048576 := by have := readyL_len (s.status.take k); rw [← hx] at this; simp at this; omega
     refine stop_idx encInt tabOk rfl rfl rfl rfl rfl ⟨rfl, rfl⟩ (rdVia 1 rfl (.ofR (stateO_status s))) k rfl z34 (fun ad => ?_)
     refine CaseB.mk (fun g => ?_) (fun g0 => ?_)
     · have c : s.status[k] = 0 ∨ s.status[k] = 2 := .inl z82
       refine AllSl.mk fun b => ?_
       refine stop_app encInt 1 tabOk (ys := [(k : Int)]) rfl rfl rfl rfl rfl rfl rfl rfl rfl (by decide) ⟨rfl, rfl⟩ rfl z28 z34 z34 (fun z => ?_)
       refine ⟨⟨(k + 1, z, xs ++ [(k : Int)]), by omega, by simp only [hsucc, evReady, if_pos c, hx], .inr f0⟩, ?_, by simp only; omega⟩
       exact weak_mk [0, 2] zw1 zw0 zw1 zw5 zw3 rfl rfl
     have n0 : ¬ s.status[k] = 0 := by simpa using g0
     refine stop_idx encInt tabOk rfl rfl rfl rfl rfl ⟨rfl, rfl⟩ (rdVia 1 rfl (.ofR (stateO_status s))) k rfl z34 (fun ad2 => ?_)
     apply CaseB.mk <;> intro g
     · have c : s.status[k] = 0 ∨ s.status[k] = 2 := .inr z82
       refine AllSl.mk fun b => ?_
       refine stop_app encInt 1 tabOk (ys := [(k : Int)]) rfl rfl rfl rfl rfl rfl rfl rfl rfl (by decide) ⟨rfl, rfl⟩ rfl z28 z34 z34 (fun z => ?_)
       refine ⟨⟨(k + 1, z, xs ++ [(k : Int)]), by omega, by simp only [hsucc, evReady, if_pos c, hx], .inr f0⟩, ?_, by simp only; omega⟩
       exact weak_mk [0, 2] zw1 zw0 zw1 zw5 zw3 rfl rfl
     have n2 : ¬ s.status[k] = 2 := by simpa using g
     refine ⟨⟨(k + 1, y, xs), by omega, by simp only [hsucc, evReady, if_neg (show ¬ (s.status[k] = 0 ∨ s.status[k] = 2) from fun h => h.elim n0 n2), hx, List.append_nil], .inr f0⟩, ?_, by simp only; omega⟩
     exact weak_mk [0, 1] zw1 zw0 zw1 zw5 zw3 rfl rfl
   · have f0 : ¬ s.fault = 0 := by simpa using g
     rw [hend (.inr f0)]
     exact retw [0] ⟨y, rfl, rfl⟩ z115 rfl ⟨rfl, trivial⟩ (fun _ => rfl)
 have hge : s.status.length ≤ k := by simpa using g
 rw [hend (.inl hge)]
 exact retw [0] ⟨y, rfl, rfl⟩ z115 rfl ⟨rfl, trivial⟩ (fun _ => rfl)
def Over (p : Prog) (s : State) : Prop := Fits p s ∧ s.fault = 0 ∧ ∀ x ∈ s.status, x = 3
def Stuck (p : Prog) (s : State) : Prop := Fits p s ∧ s.fault = 0 ∧ readyM s = [] ∧ ¬ ∀ x ∈ s.status, x = 3
set_option maxHeartbeats 4000000 in
set_option maxRecDepth 100000 in
theorem isOver_c (p : ProgH) (s : StateH) (w : World) (h : At w [fR (progO p), fR (stateO s)]) (hp : p.pure.small20) (hs : s.pure.small20) :
   Calls Tryz.prog 25 #[progV p, stateV s] w (Tells w (Over p.pure s.pure)) := by
 have hb : s.status.length ≤ 1048576 := hs.2.1
 refine calls2 Tryz.func25 rfl tabOk w _ rfl _ rfl _ h ⟨rfl, rfl, rfl, rfl, trivial⟩ _ _ (by decide) ?_
 refine stop_call _ cl18 rfl rfl rfl rfl ⟨rfl, rfl⟩ (fun A w hW => stateFits_c p s w ⟨hW.get 0 rfl (.refl _), hW.get 1 rfl (.refl _), trivial⟩ hp hs) ?_
 rintro v L ⟨b, rfl, hbb, rfl⟩
 apply CaseB.mk <;> intro g
 · have ft := hbb.1 z82
   apply CaseB.mk <;> intro g
   · have f0 : s.fault = 0 := by simpa using g
     refine stop_call _ cl73 rfl rfl rfl rfl ⟨rfl, rfl⟩ (fun A w hW => allDone_c s w ⟨hW.get 1 rfl (.refl _), trivial⟩ hb) ?_
     rintro v L ⟨b2, rfl, hb2, rfl⟩
     exact ret0 ⟨_, rfl, hb2.trans ⟨fun e => ⟨ft, f0, e⟩, fun e => e.2.2⟩, rfl⟩ (fun _ => rfl)
   · have f0 : ¬ s.fault = 0 := by simpa using g
     exact ret0 ⟨_, rfl, tno fun e => f0 e.2.1, rfl⟩ (fun _ => rfl)
 · exact ret0 ⟨_, rfl, tno fun e => z72, rfl⟩ (fun _ => rfl)
set_option maxHeartbeats 4000000 in
set_option maxRecDepth 100000 in
theorem isOverS_c (p : ProgH) (s : StateH) (w : World) (h : At w [fR (progO p), fR (stateO s)]) (hp : p.pure.small20) (hs : s.pure.small20) :
   Calls Tryz.prog 26 #[progV p, stateV s] w (Tells w (Over p.pure s.pure)) := by
 have hb : s.status.length ≤ 1048576 := hs.2.1
 refine calls2 Tryz.func26 rfl tabOk w _ rfl _ rfl _ h ⟨rfl, rfl, rfl, rfl, trivial⟩ _ _ (by decide) ?_
 refine LoopW.mk ⟨{ k : Nat // k ≤ s.status.length ∧ ∀ x ∈ s.status.take k, x = 3 },
   fun k => .mk [(2, .p 0 0), (3, .p 1 0), (5, .v (.int .i64 (k.1 : Int)))] 2 0 [(0, 37, 5), (1, 30, 9)] [((0, 0), .v (p.h0.val p.sems.length)), ((0, 1), .v (p.h1.val p.groups.length)), ((0, 2), .v (p.h2.val p.barriers.length)), ((0, 3), .v (p.h3.val p.rooms.length)), ((0, 4), .v (p.h4.val p.threads.length)), ((1, 0), .v (s.h0.val s.places.length)), ((1, 1), .v (s.h1.val s.status.length)), ((1, 2), .v (s.h2.val s.sems.length)), ((1, 3), .v (s.h3.val s.onces.length)), ((1, 4), .v (s.h4.val s.groups.length)), ((1, 5), .v (s.h5.val s.barriers.length)), ((1, 6), .v (s.h6.val s.chans.length)), ((1, 7), .v (s.h7.val s.said.length)), ((1, 8), .v (.int .i64 s.fault))] [fR (progO p), fR (stateO s)],
   fun k => s.status.length - k.1, ⟨0, Nat.zero_le _, by simp⟩, ?_, ?_⟩
 · exact weak_mk [0, 1] zw2 zw0 zw2 zw5 zw4 rfl rfl
 rintro ⟨k, hk, hinv⟩
 apply CaseB.mk <;> intro g
 · have hlt : k < s.status.length := by simpa using g
   have hw := e_succ k _ hlt (by omega)
   refine stop_idx encInt tabOk rfl rfl rfl rfl rfl ⟨rfl, rfl⟩ (rdVia 1 rfl (.ofR (stateO_status s))) k rfl z34 (fun ad => ?_)
   apply CaseB.mk <;> intro g
   · have n : ¬ s.status[k] = 3 := by simpa using g
     exact ret0 ⟨_, rfl, tno fun e => n (e.2.2 _ (List.getElem_mem hlt)), rfl⟩ (fun _ => rfl)
   have q1 : s.status[k] = 3 := by simpa using g
   refine ⟨⟨k + 1, by omega, fun x hm => ?_⟩, ?_, by simp only; omega⟩
   · rw [List.take_succ_eq_append_getElem hlt] at hm
     rcases List.mem_append.1 hm with hm | hm
     · exact hinv x hm
     · rw [List.mem_singleton.1 hm]; exact q1
   · exact weak_mk [0, 1] zw1 zw0 zw1 zw5 zw3 rfl rfl
 have hge : s.status.length ≤ k := by simpa using g
 rw [List.take_of_length_le hge] at hinv
 refine stop_call _ cl19 rfl rfl rfl rfl ⟨rfl, rfl⟩ (fun A w hW => stateFitsS_c p s w ⟨hW.get 0 rfl (.refl _), hW.get 1 rfl (.refl _), trivial⟩ hp hs) ?_
 rintro v L ⟨b, rfl, hbb, rfl⟩
 apply CaseB.mk <;> intro g
 · have ft := hbb.1 z82
   refine ret0 ⟨_, rfl, ?_, rfl⟩ (fun _ => rfl)
   rw [beq_iff_eq]
   exact ⟨fun e => ⟨ft, e, hinv⟩, fun e => e.2.1⟩
 · exact ret0 ⟨_, rfl, tno fun e => z72, rfl⟩ (fun _ => rfl)
set_option maxHeartbeats 4000000 in
set_option maxRecDepth 100000 in
theorem isStuck_c (p : ProgH) (s : StateH) (w : World) (h : At w [fR (progO p), fR (stateO s)]) (hp : p.pure.small20) (hs : s.pure.small20) :
   Calls Tryz.prog 23 #[progV p, stateV s] w (Tells w (Stuck p.pure s.pure)) := by
 have hb : s.status.length ≤ 1048576 := hs.2.1
 refine calls2 Tryz.func23 rfl tabOk w _ rfl _ rfl _ h ⟨rfl, rfl, rfl, rfl, trivial⟩ _ _ (by decide) ?_
 refine stop_call _ cl18 rfl rfl rfl rfl ⟨rfl, rfl⟩ (fun A w hW => stateFits_c p s w ⟨hW.get 0 rfl (.refl _), hW.get 1 rfl (.refl _), trivial⟩ hp hs) ?_
 rintro v L ⟨b, rfl, hbb, rfl⟩
 apply CaseB.mk <;> intro g
 · have ft := hbb.1 z82
   apply CaseB.mk <;> intro g
   · have f0 : s.fault = 0 := by simpa using g
     refine stop_call _ cl72 rfl rfl rfl rfl ⟨rfl, rfl⟩ (fun A w hW => ready_c s w ⟨hW.get 1 rfl (.refl _), trivial⟩ hb) ?_
     rintro v L ⟨y, rfl, rfl⟩
     apply CaseB.mk <;> intro g
     · have r0 : readyM s.pure = [] := List.eq_nil_of_length_eq_zero (by have g' : ((readyM s.pure).length : Int) = 0 := by simpa using g
                                                                         omega)
       refine stop_call _ cl73 rfl rfl rfl rfl ⟨rfl, rfl⟩ (fun A w hW => allDone_c s w ⟨hW.get 2 rfl (.refl _), trivial⟩ hb) ?_
       rintro v L ⟨b2, rfl, hb2, rfl⟩
       refine ret0 ⟨_, rfl, ?_, rfl⟩ (fun _ => rfl)
       constructor
       · intro e
         exact ⟨ft, f0, r0, fun h => by rw [hb2.2 h] at e; cases e⟩
       · intro e
         cases b2 with
         | true => exact (e.2.2.2 (hb2.1 rfl)).elim
         | false => rfl
     · have r0 : ¬ readyM s.pure = [] := fun e => by rw [e] at g; simp at g
       exact ret0 ⟨_, rfl, tno fun e => r0 e.2.2.1, rfl⟩ (fun _ => rfl)
   · have f0 : ¬ s.fault = 0 := by simpa using g
     exact ret0 ⟨_, rfl, tno fun e => f0 e.2.1, rfl⟩ (fun _ => rfl)
 · exact ret0 ⟨_, rfl, tno fun e => z72, rfl⟩ (fun _ => rfl)
set_option maxHeartbeats 4000000 in
set_option maxRecDepth 100000 in
theorem isStuckS_c (p : ProgH) (s : StateH) (w : World) (h : At w [fR (progO p), fR (stateO s)]) (hp : p.pure.small20) (hs : s.pure.small20) :
   Calls Tryz.prog 27 #[progV p, stateV s] w (Tells w (Stuck p.pure s.pure)) := by
 have hb : s.status.length ≤ 1048576 := hs.2.1
 refine calls2 Tryz.func27 rfl tabOk w _ rfl _ rfl _ h ⟨rfl, rfl, rfl, rfl, trivial⟩ _ _ (by decide) ?_
 refine stop_call _ cl19 rfl rfl rfl rfl ⟨rfl, rfl⟩ (fun A w hW => stateFitsS_c p s w ⟨hW.get 0 rfl (.refl _), hW.get 1 rfl (.refl _), trivial⟩ hp hs) ?_
 rintro v L ⟨b, rfl, hbb, rfl⟩
 apply CaseB.mk <;> intro g
 · have ft := hbb.1 z82
   apply CaseB.mk <;> intro g
   · have f0 : s.fault = 0 := by simpa using g
     refine stop_call _ cl75 rfl rfl rfl rfl ⟨rfl, rfl⟩ (fun A w hW => readyS_c s w ⟨hW.get 1 rfl (.refl _), trivial⟩ hb) ?_
     rintro v L ⟨y, rfl, rfl⟩
     apply CaseB.mk <;> intro g
     · have r0 : readyM s.pure = [] := List.eq_nil_of_length_eq_zero (by have g' : ((readyM s.pure).length : Int) = 0 := by simpa using g
                                                                         omega)
       refine stop_call _ cl26 rfl rfl rfl rfl ⟨rfl, rfl⟩ (fun A w hW => isOverS_c p s w ⟨hW.get 1 rfl (.refl _), hW.get 2 rfl (.refl _), trivial⟩ hp hs) ?_
       rintro v L ⟨b2, rfl, hb2, rfl⟩
       refine ret0 ⟨_, rfl, ?_, rfl⟩ (fun _ => rfl)
       constructor
       · intro e
         exact ⟨ft, f0, r0, fun h => by rw [hb2.2 ⟨ft, f0, h⟩] at e; cases e⟩
       · intro e
         cases b2 with
         | true => exact (e.2.2.2 (hb2.1 rfl).2.2).elim
         | false => rfl
     · have r0 : ¬ readyM s.pure = [] := fun e => by rw [e] at g; simp at g
       exact ret0 ⟨_, rfl, tno fun e => r0 e.2.2.1, rfl⟩ (fun _ => rfl)
   · have f0 : ¬ s.fault = 0 := by simpa using g
     exact ret0 ⟨_, rfl, tno fun e => f0 e.2.1, rfl⟩ (fun _ => rfl)
 · exact ret0 ⟨_, rfl, tno fun e => z72, rfl⟩ (fun _ => rfl)
def ReadyAns (p : Prog) (s : State) (v : Value) (L : List Fct) : Prop := ∃ (y : Sl) (xs : List Int), v = y.val xs.length ∧ (Fits p s → xs = readyM s) ∧ (¬ Fits p s → xs = []) ∧ L = [own y 3 cInt 1 xs]
set_option maxHeartbeats 4000000 in
set_option maxRecDepth 100000 in
theorem readyThreads_c (p : ProgH) (s : StateH) (w : World) (h : At w [fR (progO p), fR (stateO s)]) (hp : p.pure.small20) (hs : s.pure.small20) :
   Calls Tryz.prog 28 #[progV p, stateV s] w (Ret w (ReadyAns p.pure s.pure)) := by
 have hb : s.status.length ≤ 1048576 := hs.2.1
 refine calls2 Tryz.func28 rfl tabOk w _ rfl _ rfl _ h ⟨rfl, rfl, rfl, rfl, trivial⟩ _ _ (by decide) ?_
 refine stop_call _ cl18 rfl rfl rfl rfl ⟨rfl, rfl⟩ (fun A w hW => stateFits_c p s w ⟨hW.get 0 rfl (.refl _), hW.get 1 rfl (.refl _), trivial⟩ hp hs) ?_
 rintro v L ⟨b, rfl, hbb, rfl⟩
 apply CaseB.mk <;> intro g
 · have n : ¬ Fits p.pure s.pure := fun e => by rw [hbb.2 e] at g; cases g
   exact retw [90] ⟨⟨none, 0⟩, [], rfl, fun e => (n e).elim, fun _ => rfl, rfl⟩ z102 rfl ⟨rfl, trivial⟩ (fun _ => rfl)
 have ft := hbb.1 z82
 refine stop_call _ cl72 rfl rfl rfl rfl ⟨rfl, rfl⟩ (fun A w hW => ready_c s w ⟨hW.get 1 rfl (.refl _), trivial⟩ hb) ?_
 rintro v L ⟨y, rfl, rfl⟩
 exact retw [0] ⟨y, _, rfl, fun _ => rfl, fun e => (e ft).elim, rfl⟩ z115 rfl ⟨rfl, trivial⟩ (fun _ => rfl)
set_option maxHeartbeats 4000000 in
set_option maxRecDepth 100000 in
theorem readyThreadsS_c (p : ProgH) (s : StateH) (w : World) (h : At w [fR (progO p), fR (stateO s)]) (hp : p.pure.small20) (hs : s.pure.small20) :
   Calls Tryz.prog 31 #[progV p, stateV s] w (Ret w (ReadyAns p.pure s.pure)) := by
 have hb : s.status.length ≤ 1048576 := hs.2.1
 refine calls2 Tryz.func31 rfl tabOk w _ rfl _ rfl _ h ⟨rfl, rfl, rfl, rfl, trivial⟩ _ _ (by decide) ?_
 refine stop_call _ cl19 rfl rfl rfl rfl ⟨rfl, rfl⟩ (fun A w hW => stateFitsS_c p s w ⟨hW.get 0 rfl (.refl _), hW.get 1 rfl (.refl _), trivial⟩ hp hs) ?_
 rintro v L ⟨b, rfl, hbb, rfl⟩
 apply CaseB.mk <;> intro g
 · have n : ¬ Fits p.pure s.pure := fun e => by rw [hbb.2 e] at g; cases g
   refine AllSl.mk fun y0 => ?_
   exact retw [0] ⟨y0, [], rfl, fun e => (n e).elim, fun _ => rfl, rfl⟩ z115 rfl ⟨rfl, trivial⟩ (fun _ => rfl)
 have ft := hbb.1 z82
 refine stop_call _ cl75 rfl rfl rfl rfl ⟨rfl, rfl⟩ (fun A w hW => readyS_c s w ⟨hW.get 1 rfl (.refl _), trivial⟩ hb) ?_
 rintro v L ⟨y, rfl, rfl⟩
 exact retw [0] ⟨y, _, rfl, fun _ => rfl, fun e => (e ft).elim, rfl⟩ z115 rfl ⟨rfl, trivial⟩ (fun _ => rfl)
theorem onM_eq (p : Prog) : ∀ (who : List Int) (s s' : State), s'.places = s.places → s'.status = s.status → onM p who s' = { s' with places := (onM p who s).places, status := (onM p who s).status }
 | [], s, s', e1, e2 => by cases s'; simp only [onM, List.foldl_nil] at *; simp [e1, e2]
 | x :: r, s, s', e1, e2 => by
   have h := onM_eq p r (goM p s x) (goM p s' x) (by simp only [goM, e1]) (by simp only [goM, e1, e2])
   have e : ∀ s, onM p (x :: r) s = onM p r (goM p s x) := fun _ => rfl
   rw [e, e, h]; rfl
theorem outIn {Zs : List Fct} {y : StateH} (k0 k1 k2 k3 k4 k5 k6 k7 : Nat) (e0 : Zs[k0]? = some (own y.h0 3 cInt 1 y.places)) (e1 : Zs[k1]? = some (own y.h1 3 cInt 1 y.status)) (e2 : Zs[k2]? = some (own y.h2 57 cSemH 3 y.sems)) (e3 : Zs[k3]? = some (own y.h3 70 cOnceH 4 y.onces)) (e4 : Zs[k4]? = some (own y.h4 74 cGroupH 2 y.groups)) (e5 : Zs[k5]? = some (own y.h5 65 cBarrierH 3 y.barriers)) (e6 : Zs[k6]? = some (own y.h6 80 cChanH 5 y.chans)) (e7 : Zs[k7]? = some (own y.h7 3 cInt 1 y.said)) : ∀ g ∈ outerO y, g ∈ Zs := by
 intro g hg
 simp only [outerO, List.mem_cons, List.not_mem_nil, or_false] at hg
 rcases hg with rfl | rfl | rfl | rfl | rfl | rfl | rfl | rfl
 · exact List.mem_of_getElem? e0
 · exact List.mem_of_getElem? e1
 · exact List.mem_of_getElem? e2
 · exact List.mem_of_getElem? e3
 · exact List.mem_of_getElem? e4
 · exact List.mem_of_getElem? e5
 · exact List.mem_of_getElem? e6
 · exact List.mem_of_getElem? e7
def progZ : Prog := ⟨[], [], [], [], []⟩
def progHZ : ProgH := ⟨[], [], [], [], [], ⟨none, 0⟩, ⟨none, 0⟩, ⟨none, 0⟩, ⟨none, 0⟩, ⟨none, 0⟩⟩
def linesL (ls : List Str) : List Str := (ls.take (ls.length - 1)).take 9
theorem foldl_take {α β : Type} (f : β → α → β) (z : β) (l : List α) {k : Nat} (h : k < l.length) : (l.take (k + 1)).foldl f z = f ((l.take k).foldl f z) l[k] := by
 rw [List.take_succ_eq_append_getElem h, List.foldl_append]; rfl
set_option maxHeartbeats 32000000 in
set_option maxRecDepth 100000 in
theorem parseProg_c (t : Str) (w : World) (hb : t.length ≤ 1000) (ok : ProgOk (parseM t)) (hf : fmtProgM (parseM t) = t) :
   Calls Tryz.prog 123 #[.string (bs t)] w (Ret w fun v L => ∃ p : ProgH, v = .tuple #[progV p, .bool true] ∧ p.pure = parseM t ∧ L = [fO (progO p)]) := by
 have hcl := cutM_len 10 t
 have hpt : ∀ x ∈ cutM 10 t, x.length ≤ 1000 := fun x hx => Nat.le_trans (cutM_part hx) hb
 have hM : parseM t = (linesL (cutM 10 t)).foldl stepL progZ := rfl
 generalize parseM t = M at ok hf hM ⊢
 refine calls1 Tryz.func123 rfl tabOk w _ rfl _ rfl [] trivial trivial _ (by decide) ?_
 refine stop_call _ cl161 rfl rfl rfl rfl ⟨rfl, rfl⟩ (fun A w hW => (cut_c t 10 w (by omega))) ?_
 rintro v L ⟨y, rfl, rfl⟩
 generalize cutM 10 t = ls at hcl hpt hM ⊢
 have hLl : (linesL ls).length ≤ 9 ∧ (linesL ls).length + 1 ≤ ls.length ∧ ((linesL ls).length = 9 ∨ (linesL ls).length + 1 = ls.length) := by
   simp only [linesL, List.length_take]; omega
 have hLi : ∀ (i : Nat) (h : i < (linesL ls).length) (h2 : i < ls.length), (linesL ls)[i] = ls[i] := fun i h h2 => by simp [linesL]
 generalize linesL ls = Ls at hM hLl hLi
 refine LoopW.mk ⟨{ q : Nat × ProgH // q.1 ≤ Ls.length ∧ q.2.pure = (Ls.take q.1).foldl stepL progZ ∧ q.2.threads.length ≤ q.1 },
   fun q => .mk [(0, .v (.string (bs t))), (2, .p 0 0), (4, .v (y.val ls.length)), (5, .p 1 0), (6, .v (.int .i64 (q.1.1 : Int)))] 2 0 [(0, 37, 5), (1, 37, 5)] [((1, 0), .v (q.1.2.h0.val q.1.2.sems.length)), ((1, 1), .v (q.1.2.h1.val q.1.2.groups.length)), ((1, 2), .v (q.1.2.h2.val q.1.2.barriers.length)), ((1, 3), .v (q.1.2.h3.val q.1.2.rooms.length)), ((1, 4), .v (q.1.2.h4.val q.1.2.threads.length))] [own q.1.2.h0 3 cInt 1 q.1.2.sems, own q.1.2.h1 3 cInt 1 q.1.2.groups, own q.1.2.h2 3 cInt 1 q.1.2.barriers, own q.1.2.h3 3 cInt 1 q.1.2.rooms, own q.1.2.h4 47 cOpSH 1 q.1.2.threads, fO (q.1.2.threads.flatMap opSO), own y 9 cTxt 1 ls],
   fun q => Ls.length - q.1.1, ⟨(0, progHZ), Nat.zero_le _, rfl, Nat.le_refl _⟩, ?_, ?_⟩
 · refine weak_shift (.joinO [] (Gs := []) trivial rfl (.refl _)) ?_
   exact weak_mk [95, 96, 97, 98, 99, 0, 1] zw2 zw0 zw2 zw5 zw4 rfl rfl
 rintro ⟨⟨i, p⟩, i1, i2, i3⟩
 simp only at i1 i2 i3 ⊢
 have hw0 : IntKind.i64.wrap ((i : Int) + 1) = ((i + 1 : Nat) : Int) := e_succ i 100 (by omega) (by omega)
 apply CaseB.mk <;> intro g
 refine CaseB.mk (fun g2 => ?_) (fun g2 => ?_)
 · rw [hw0] at g
   have hlt : i < ls.length := by have := of_decide_eq_true g; omega
   have hiL : i < Ls.length := by have := of_decide_eq_true g; have := of_decide_eq_true g2; omega
   have hst := foldl_take stepL progZ Ls hiL
   rw [← i2, hLi i hiL hlt] at hst
   obtain ⟨ln, hln⟩ : ∃ ln, ln = ls[i] := ⟨_, rfl⟩
   have hll : ln.length ≤ 1000 := by rw [hln]; exact hpt _ (List.getElem_mem hlt)
   rw [← hln] at hst
   refine stop_idx encTxt tabOk rfl rfl rfl rfl rfl ⟨rfl, rfl⟩ (rdOwnAt 6 rfl) i rfl z34 (fun ad0 => ?_)
   rw [← hln]
   refine stop_call _ cl162 rfl rfl rfl rfl ⟨rfl, rfl⟩ (fun A w hW => (line_c ln [115, 101, 109, 115] w hll)) ?_
   rintro v L ⟨z0, n0, b0, rfl, f0, t0, rfl⟩
   refine stop_idx encTxt tabOk rfl rfl rfl rfl rfl ⟨rfl, rfl⟩ (rdOwnAt 7 rfl) i rfl z34 (fun ad1 => ?_)
   rw [← hln]
   refine stop_call _ cl162 rfl rfl rfl rfl ⟨rfl, rfl⟩ (fun A w hW => (line_c ln [103, 114, 111, 117, 112, 115] w hll)) ?_
   rintro v L ⟨z1, n1, b1, rfl, f1, t1, rfl⟩
   refine stop_idx encTxt tabOk rfl rfl rfl rfl rfl ⟨rfl, rfl⟩ (rdOwnAt 8 rfl) i rfl z34 (fun ad2 => ?_)
   rw [← hln]
   refine stop_call _ cl162 rfl rfl rfl rfl ⟨rfl, rfl⟩ (fun A w hW => (line_c ln [98, 97, 114, 114, 105, 101, 114, 115] w hll)) ?_
   rintro v L ⟨z2, n2, b2, rfl, f2, t2, rfl⟩
   refine stop_idx encTxt tabOk rfl rfl rfl rfl rfl ⟨rfl, rfl⟩ (rdOwnAt 9 rfl) i rfl z34 (fun ad3 => ?_)
   rw [← hln]
   refine stop_call _ cl162 rfl rfl rfl rfl ⟨rfl, rfl⟩ (fun A w hW => (line_c ln [114, 111, 111, 109, 115] w hll)) ?_
   rintro v L ⟨z3, n3, b3, rfl, f3, t3, rfl⟩
   refine stop_idx encTxt tabOk rfl rfl rfl rfl rfl ⟨rfl, rfl⟩ (rdOwnAt 10 rfl) i rfl z34 (fun ad4 => ?_)
   rw [← hln]
   refine stop_call _ cl163 rfl rfl rfl rfl ⟨rfl, rfl⟩ (fun A w hW => (threadP_c ln w hll)) ?_
   rintro v L ⟨z4, n4, b4, rfl, f4, t4, rfl⟩
   refine CaseB.mk (fun e0 => ?_) (fun e0 => ?_)
   · have hn : stepL p.pure ln = (ProgH.pure { p with sems := n0, h0 := z0 }) := by simp only [stepL, t0 e0]; rfl
     refine ⟨⟨(i + 1, { p with sems := n0, h0 := z0 }), hiL, by rw [hst, hn], show p.threads.length ≤ i + 1 by omega⟩, ?_, by simp only; omega⟩
     exact weak_mk [4, 6, 7, 8, 9, 10, 11] zw7 zw0 zw7 zw5 zw12 rfl rfl
   refine CaseB.mk (fun e1 => ?_) (fun e1 => ?_)
   · have hn : stepL p.pure ln = (ProgH.pure { p with groups := n1, h1 := z1 }) := by simp only [stepL, f0 e0, t1 e1]; rfl
     refine ⟨⟨(i + 1, { p with groups := n1, h1 := z1 }), hiL, by rw [hst, hn], show p.threads.length ≤ i + 1 by omega⟩, ?_, by simp only; omega⟩
     exact weak_mk [5, 3, 7, 8, 9, 10, 11] zw7 zw0 zw7 zw5 zw12 rfl rfl
   refine CaseB.mk (fun e2 => ?_) (fun e2 => ?_)
   · have hn : stepL p.pure ln = (ProgH.pure { p with barriers := n2, h2 := z2 }) := by simp only [stepL, f0 e0, f1 e1, t2 e2]; rfl
     refine ⟨⟨(i + 1, { p with barriers := n2, h2 := z2 }), hiL, by rw [hst, hn], show p.threads.length ≤ i + 1 by omega⟩, ?_, by simp only; omega⟩
     exact weak_mk [5, 6, 2, 8, 9, 10, 11] zw7 zw0 zw7 zw5 zw12 rfl rfl
   refine CaseB.mk (fun e3 => ?_) (fun e3 => ?_)
   · have hn : stepL p.pure ln = (ProgH.pure { p with rooms := n3, h3 := z3 }) := by simp only [stepL, f0 e0, f1 e1, f2 e2, t3 e3]; rfl
     refine ⟨⟨(i + 1, { p with rooms := n3, h3 := z3 }), hiL, by rw [hst, hn], show p.threads.length ≤ i + 1 by omega⟩, ?_, by simp only; omega⟩
     exact weak_mk [5, 6, 7, 1, 9, 10, 11] zw7 zw0 zw7 zw5 zw12 rfl rfl
   refine CaseB.mk (fun e4 => ?_) (fun e4 => ?_)
   · refine AllSl.mk fun b5 => ?_
     obtain ⟨x, hx⟩ : ∃ x : OpSH, x = ⟨n4, z4⟩ := ⟨_, rfl⟩
     refine stop_app encOpSH 10 tabOk (xs := p.threads) (ys := [⟨n4, z4⟩]) rfl rfl rfl rfl rfl rfl rfl rfl rfl (by decide) ⟨rfl, rfl⟩ rfl z28 z34 z34 (fun z5 => ?_)
     rw [← hx]
     have hn : stepL p.pure ln = (ProgH.pure { p with threads := p.threads ++ [x], h4 := z5 }) := by simp only [stepL, f0 e0, f1 e1, f2 e2, f3 e3, t4 e4]; subst hx; simp [ProgH.pure]
     refine ⟨⟨(i + 1, { p with threads := p.threads ++ [x], h4 := z5 }), hiL, by rw [hst, hn], by simp; omega⟩, ?_, by simp only; omega⟩
     refine weak_shift (.joinO [2, 11] (Gs := [[_], _]) z107 rfl (G := (p.threads ++ [x]).flatMap opSO) (by subst hx; rw [List.flatMap_append]; exact (List.Perm.of_eq (by simp [opSO])).trans List.perm_append_comm)) ?_
     exact weak_mk [7, 8, 9, 10, 1, 0, 11] zw7 zw0 zw7 zw5 zw12 rfl rfl
   have hn : stepL p.pure ln = p.pure := by simp only [stepL, f0 e0, f1 e1, f2 e2, f3 e3, f4 e4]
   refine ⟨⟨(i + 1, p), hiL, by rw [hst, hn], show p.threads.length ≤ i + 1 by omega⟩, ?_, by simp only; omega⟩
   exact weak_mk [5, 6, 7, 8, 9, 10, 11] zw7 zw0 zw7 zw5 zw12 rfl rfl
 have hie : i = Ls.length := by have := of_decide_eq_false g2; omega
 rotate_left
 have hie : i = Ls.length := by rw [hw0] at g; have := of_decide_eq_false g; omega
 rotate_left
 all_goals
   rw [hie, List.take_length, ← hM] at i2
   have sz : p.sems.length ≤ 3 ∧ p.groups.length ≤ 3 ∧ p.barriers.length ≤ 3 ∧ p.rooms.length ≤ 3 := by
     rw [← i2] at ok; exact ⟨ok.sems.1, ok.groups.1, ok.barriers.1, ok.rooms.1⟩
   refine stop_shift (.joinO [0, 1, 2, 3, 4, 5] (Gs := [[_], [_], [_], [_], [_], _]) ⟨.inl ⟨_, rfl, .own⟩, .inl ⟨_, rfl, .own⟩, .inl ⟨_, rfl, .own⟩, .inl ⟨_, rfl, .own⟩, .inl ⟨_, rfl, .own⟩, .inl ⟨_, rfl, .o⟩, trivial⟩ rfl (G := progO p) (.of_eq (by simp [progO, threadsO, nestO]))) ?_
   refine stop_call _ cl65 rfl rfl rfl rfl ⟨rfl, rfl⟩ (fun A w hW => progValidS_c p w ⟨hW.get 0 rfl (.O_R fun _ h => h), trivial⟩ ⟨by omega, by omega, by omega, by omega⟩) ?_
   rintro v L ⟨b0, rfl, hb0, rfl⟩
   rw [i2] at hb0
   refine CaseB.mk (fun g3 => by rw [hb0.2 ok] at g3; cases g3) (fun _ => ?_)
   refine stop_call _ cl164 rfl rfl rfl rfl ⟨rfl, rfl⟩ (fun A w hW => (fmtProg_c p w ⟨hW.get 0 rfl (.O_R fun _ h => h), trivial⟩ (by rw [i2]; exact ok))) ?_
   rintro v L ⟨rfl, rfl⟩
   rw [i2, hf]
   refine stop_bin rfl rfl rfl ⟨rfl, rfl⟩ (.bool (t != t)) (fun w => eqGuard_str w) (fun w => sne_run w) ?_
   refine CaseB.mk (fun g4 => by simp at g4) (fun _ => ?_)
   exact retw [0] ⟨p, rfl, i2, rfl⟩ z115 rfl ⟨rfl, trivial⟩ (fun _ => rfl)
set_option maxRecDepth 100000 in
theorem of_c (g : Nat) (bi : Sl) (rb : List UInt8) (p : Nat) (i : Sl) (xs : List Str) (w : World) (hg : Blk w g 139 (rdrV bi rb p)) (h : AtP w g [slo bi cByte 1 rb, slo i cTxt 1 xs]) (hb : rb.length ≤ 2000) (hp : p < 1000000000) (h0 : 0 < xs.length) :
   Calls Tryz.prog 124 #[.pointer (some ⟨g, 0, none⟩), i.val xs.length] w (RetP w g 139 2 fun v cs L => ∃ x : Str, v = .string (bs x) ∧ x ∈ xs ∧ cs = rdrV bi rb (p + 1) ∧ L = []) := by
 refine callsP2 Tryz.func124 rfl tabOk w _ rfl _ rfl _ 139 _ 2 rfl hg _ h ⟨rfl, rfl, rfl, rfl, trivial⟩ _ (by decide) ?_
 refine stop_callP _ cl41 rfl rfl rfl rfl ⟨rfl, rfl⟩ rfl rfl (fun A w ga hga hW hblk => (pick_c ga bi rb p xs.length w hblk ⟨z26, trivial⟩ hb hp)) ?_
 rintro v cs L ⟨k, rfl, hk, _, rfl, rfl⟩
 have hlt : k < xs.length := by have := hk (by omega); omega
 refine stop_idx encTxt tabOk rfl rfl rfl rfl rfl ⟨rfl, rfl⟩ z28 k rfl z34 (fun ad => ?_)
 exact retP [] ⟨_, rfl, List.getElem_mem hlt, rfl, rfl⟩ rfl rfl trivial rfl trivial (fun _ => rfl)
set_option maxRecDepth 100000 in
theorem samples_c (w : World) : Calls Tryz.prog 125 #[] w (Ret w fun v L => ∃ y : Sl, v = y.val samplesL.length ∧ L = [own y 9 cTxt 1 samplesL]) := by
 refine calls0 Tryz.func125 rfl tabOk w _ rfl _ rfl [] trivial trivial  ?_
 refine AllSl.mk fun y => ?_
 exact retw [0] ⟨y, rfl, rfl⟩ z115 rfl ⟨rfl, trivial⟩ (fun _ => rfl)
set_option maxHeartbeats 8000000 in
set_option maxRecDepth 100000 in
theorem op6_c (g : Nat) (bi : Sl) (rb : List UInt8) (p : Nat) (q : ProgH) (w : World) (hg : Blk w g 139 (rdrV bi rb p)) (h : AtP w g [slo bi cByte 1 rb, fR (progO q)]) (hb : rb.length ≤ 2000) (hp : p < 1000000) :
   Calls Tryz.prog 126 #[.pointer (some ⟨g, 0, none⟩), progV q] w (RetP w g 139 2 fun v cs L => ∃ (o : Op) (p2 : Nat), v = .agg (cOp o).toArray ∧ OpOk q.pure o ∧ cs = rdrV bi rb p2 ∧ p2 ≤ p + 4 ∧ L = []) := by
 refine callsP2 Tryz.func126 rfl tabOk w _ rfl _ rfl _ 139 _ 2 rfl hg _ h ⟨rfl, rfl, rfl, rfl, trivial⟩ _ (by decide) ?_
 refine AllSl.mk fun l1 => ?_
 refine stop_callP _ cl71 rfl rfl rfl rfl ⟨rfl, rfl⟩ rfl rfl (fun A w ga hga hW hblk => (num_c ga bi rb _ _ [1, 2, 3, 4, 5, 6, 7, 8, 9, 10, 1, 2, 3] w hblk ⟨z26, z26, trivial⟩ hb (by omega) (by decide))) ?_
 rintro v cs L ⟨k, rfl, _, rfl, rfl⟩
 refine stop_callP _ cl41 rfl rfl rfl rfl ⟨rfl, rfl⟩ rfl rfl (fun A w ga hga hW hblk => (pick_c ga bi rb _ _ w hblk ⟨z26, trivial⟩ hb (by omega))) ?_
 rintro v cs L ⟨on, rfl, _, _, rfl, rfl⟩
 refine CaseB.mk (fun e2 => ?_) (fun e2 => ?_)
 refine CaseB.mk (fun _ => ?_) (fun h => by rw [e2] at h; cases h)
 refine AllSl.mk fun l2 => ?_
 refine stop_callP _ cl71 rfl rfl rfl rfl ⟨rfl, rfl⟩ rfl rfl (fun A w ga hga hW hblk => (num_c ga bi rb _ _ [1, 1, 2] w hblk ⟨z26, z26, trivial⟩ hb (by omega) (by decide))) ?_
 rintro v cs L ⟨a, rfl, _, rfl, rfl⟩
 rotate_left
 refine CaseB.mk (fun e3 => ?_) (fun e3 => ?_)
 refine AllSl.mk fun l2 => ?_
 refine stop_callP _ cl71 rfl rfl rfl rfl ⟨rfl, rfl⟩ rfl rfl (fun A w ga hga hW hblk => (num_c ga bi rb _ _ [1, 1, 2] w hblk ⟨z26, z26, trivial⟩ hb (by omega) (by decide))) ?_
 rintro v cs L ⟨a, rfl, _, rfl, rfl⟩
 rotate_left
 refine CaseB.mk (fun e5 => ?_) (fun e5 => ?_)
 refine AllSl.mk fun l2 => ?_
 refine stop_callP _ cl71 rfl rfl rfl rfl ⟨rfl, rfl⟩ rfl rfl (fun A w ga hga hW hblk => (num_c ga bi rb _ _ [-1, 1, -2] w hblk ⟨z26, z26, trivial⟩ hb (by omega) (by decide))) ?_
 rintro v cs L ⟨a, rfl, _, rfl, rfl⟩
 rotate_left
 refine CaseB.mk (fun e1 => ?_) (fun e1 => ?_)
 refine CaseB.mk (fun _ => ?_) (fun h => by rw [e1] at h; cases h)
 refine AllSl.mk fun l2 => ?_
 refine stop_callP _ cl71 rfl rfl rfl rfl ⟨rfl, rfl⟩ rfl rfl (fun A w ga hga hW hblk => (num_c ga bi rb _ _ [7, 1, 2, 99] w hblk ⟨z26, z26, trivial⟩ hb (by omega) (by decide))) ?_
 rintro v cs L ⟨a, rfl, _, rfl, rfl⟩
 rotate_left
 refine CaseB.mk (fun e4 => ?_) (fun e4 => ?_)
 refine CaseB.mk (fun _ => ?_) (fun h => by rw [e4] at h; cases h)
 refine AllSl.mk fun l2 => ?_
 refine stop_callP _ cl71 rfl rfl rfl rfl ⟨rfl, rfl⟩ rfl rfl (fun A w ga hga hW hblk => (num_c ga bi rb _ _ [7, 1, 2, 99] w hblk ⟨z26, z26, trivial⟩ hb (by omega) (by decide))) ?_
 rintro v cs L ⟨a, rfl, _, rfl, rfl⟩
 rotate_left
 refine CaseB.mk (fun e8 => ?_) (fun e8 => ?_)
 refine AllSl.mk fun l2 => ?_
 refine stop_callP _ cl71 rfl rfl rfl rfl ⟨rfl, rfl⟩ rfl rfl (fun A w ga hga hW hblk => (num_c ga bi rb _ _ [7, 1, 2, 99] w hblk ⟨z26, z26, trivial⟩ hb (by omega) (by decide))) ?_
 rintro v cs L ⟨a, rfl, _, rfl, rfl⟩
 rotate_left
 · refine stop_call _ cl112 rfl rfl rfl rfl ⟨rfl, rfl⟩ (fun A w hW => (opValidS_c q ⟨k, (on : Int), 0⟩ w ⟨hW.get 2 rfl (.refl _), trivial⟩)) ?_
   rintro v L ⟨b1, rfl, hb1, rfl⟩
   refine CaseB.mk (fun g1 => ?_) (fun g1 => ?_)
   · refine stop_call _ cl112 rfl rfl rfl rfl ⟨rfl, rfl⟩ (fun A w hW => (opValidS_c q ⟨k, 0, 0⟩ w ⟨hW.get 2 rfl (.refl _), trivial⟩)) ?_
     rintro v L ⟨b2, rfl, hb2, rfl⟩
     refine CaseB.mk (fun g2 => ?_) (fun g2 => ?_)
     · refine stop_callP _ cl41 rfl rfl rfl rfl ⟨rfl, rfl⟩ rfl rfl (fun A w ga hga hW hblk => (pick_c ga bi rb _ _ w hblk ⟨z26, trivial⟩ hb (by omega))) ?_
       rintro v cs L ⟨e, rfl, he, _, rfl, rfl⟩
       have he9 := he (by decide)
       exact retP [] ⟨⟨1, 0, (e : Int)⟩, _, rfl, (opOk1 rfl).2 ⟨rfl, by simp [isValue]; omega⟩, rfl, by omega, rfl⟩ rfl rfl trivial rfl trivial (fun _ => rfl)
     · exact retP [] ⟨⟨k, 0, 0⟩, _, rfl, hb2.1 z79, rfl, by omega, rfl⟩ rfl rfl trivial rfl trivial (fun _ => rfl)
   · have e1 : b1 = true := by simpa using g1
     refine stop_call _ cl112 rfl rfl rfl rfl ⟨rfl, rfl⟩ (fun A w hW => (opValidS_c q ⟨k, (on : Int), 0⟩ w ⟨hW.get 2 rfl (.refl _), trivial⟩)) ?_
     rintro v L ⟨b2, rfl, hb2, rfl⟩
     refine CaseB.mk (fun g2 => by rw [hb2.2 (hb1.1 e1)] at g2; cases g2) (fun _ => ?_)
     exact retP [] ⟨⟨k, (on : Int), 0⟩, _, rfl, hb1.1 e1, rfl, by omega, rfl⟩ rfl rfl trivial rfl trivial (fun _ => rfl)
 all_goals
   refine stop_call _ cl112 rfl rfl rfl rfl ⟨rfl, rfl⟩ (fun A w hW => (opValidS_c q ⟨k, (on : Int), a⟩ w ⟨hW.get 3 rfl (.refl _), trivial⟩)) ?_
   rintro v L ⟨b1, rfl, hb1, rfl⟩
   refine CaseB.mk (fun g1 => ?_) (fun g1 => ?_)
   · refine stop_call _ cl112 rfl rfl rfl rfl ⟨rfl, rfl⟩ (fun A w hW => (opValidS_c q ⟨k, 0, a⟩ w ⟨hW.get 3 rfl (.refl _), trivial⟩)) ?_
     rintro v L ⟨b2, rfl, hb2, rfl⟩
     refine CaseB.mk (fun g2 => ?_) (fun g2 => ?_)
     · refine stop_callP _ cl41 rfl rfl rfl rfl ⟨rfl, rfl⟩ rfl rfl (fun A w ga hga hW hblk => (pick_c ga bi rb _ _ w hblk ⟨z26, trivial⟩ hb (by omega))) ?_
       rintro v cs L ⟨e, rfl, he, _, rfl, rfl⟩
       have he9 := he (by decide)
       exact retP [] ⟨⟨1, 0, (e : Int)⟩, _, rfl, (opOk1 rfl).2 ⟨rfl, by simp [isValue]; omega⟩, rfl, by omega, rfl⟩ rfl rfl trivial rfl trivial (fun _ => rfl)
     · exact retP [] ⟨⟨k, 0, a⟩, _, rfl, hb2.1 z79, rfl, by omega, rfl⟩ rfl rfl trivial rfl trivial (fun _ => rfl)
   · have e1 : b1 = true := by simpa using g1
     refine stop_call _ cl112 rfl rfl rfl rfl ⟨rfl, rfl⟩ (fun A w hW => (opValidS_c q ⟨k, (on : Int), a⟩ w ⟨hW.get 3 rfl (.refl _), trivial⟩)) ?_
     rintro v L ⟨b2, rfl, hb2, rfl⟩
     refine CaseB.mk (fun g2 => by rw [hb2.2 (hb1.1 e1)] at g2; cases g2) (fun _ => ?_)
     exact retP [] ⟨⟨k, (on : Int), a⟩, _, rfl, hb1.1 e1, rfl, by omega, rfl⟩ rfl rfl trivial rfl trivial (fun _ => rfl)
def progR (q : ProgH) : List Fct := [own q.h0 3 cInt 1 q.sems, own q.h1 3 cInt 1 q.groups, own q.h2 3 cInt 1 q.barriers, own q.h3 3 cInt 1 q.rooms] ++ q.threads.flatMap opSO
theorem progO_out (q : ProgH) : (progO q).Perm ([own q.h4 47 cOpSH 1 q.threads] ++ progR q) :=
 (List.Perm.of_eq (by simp [progO, threadsO, nestO] : progO q = [own q.h0 3 cInt 1 q.sems, own q.h1 3 cInt 1 q.groups, own q.h2 3 cInt 1 q.barriers, own q.h3 3 cInt 1 q.rooms] ++ own q.h4 47 cOpSH 1 q.threads :: q.threads.flatMap opSO)).trans List.perm_middle
theorem progO_in (q : ProgH) (x : OpSH) (z : Sl) : ([own z 47 cOpSH 1 (q.threads ++ [x])] ++ (progR q ++ [own x.q 44 cOp 3 x.m])).Perm (progO { q with threads := q.threads ++ [x], h4 := z }) := by
 refine List.Perm.trans ?_ (progO_out { q with threads := q.threads ++ [x], h4 := z }).symm
 exact .of_eq (by simp [progR, opSO])
set_option maxHeartbeats 16000000 in
set_option maxRecDepth 100000 in
theorem draw6_c (g : Nat) (bi : Sl) (rb : List UInt8) (p : Nat) (w : World) (hg : Blk w g 139 (rdrV bi rb p)) (h : AtP w g [slo bi cByte 1 rb]) (hb : rb.length ≤ 2000) (hp : p < 100000) :
   Calls Tryz.prog 74 #[.pointer (some ⟨g, 0, none⟩)] w (RetP w g 139 2 fun v cs L => ∃ (q : ProgH) (p2 : Nat), v = progV q ∧ ProgOk q.pure ∧ cs = rdrV bi rb p2 ∧ p2 ≤ p + 100 ∧ L = [fO (progO q)]) := by
 refine callsP1 Tryz.func74 rfl tabOk w _ rfl _ rfl _ 139 _ 2 rfl hg _ h ⟨rfl, rfl, trivial⟩ (by decide) ?_
 refine stop_callP _ cl41 rfl rfl rfl rfl ⟨rfl, rfl⟩ rfl rfl (fun A w ga hga hW hblk => (pick_c ga bi rb _ _ w hblk ⟨z26, trivial⟩ hb (by omega))) ?_
 rintro v cs L ⟨k0, rfl, _, _, rfl, rfl⟩
 refine CaseB.mk (fun g0 => ?_) (fun g0 => ?_)
 · refine stop_call _ cl125 rfl rfl rfl rfl ⟨rfl, rfl⟩ (fun A w hW => (samples_c w)) ?_
   rintro v L ⟨y, rfl, rfl⟩
   refine stop_callP _ cl124 rfl rfl rfl rfl ⟨rfl, rfl⟩ rfl rfl (fun A w ga hga hW hblk => (of_c ga bi rb _ y samplesL w hblk ⟨z26, z26, trivial⟩ hb (by omega) (by decide))) ?_
   rintro v cs L ⟨x, rfl, hx, rfl, rfl⟩
   obtain ⟨hl, hok, hfm⟩ := samples_ok x hx
   refine stop_call _ cl123 rfl rfl rfl rfl ⟨rfl, rfl⟩ (fun A w hW => (parseProg_c x w (by omega) hok hfm)) ?_
   rintro v L ⟨q, rfl, hq, rfl⟩
   exact retP [0] ⟨q, _, rfl, by rw [hq]; exact hok, rfl, by omega, rfl⟩ rfl rfl z115 rfl ⟨rfl, trivial⟩ (fun _ => rfl)
 refine AllSl.mk fun l1 => ?_
 refine stop_callP _ cl71 rfl rfl rfl rfl ⟨rfl, rfl⟩ rfl rfl (fun A w ga hga hW hblk => (num_c ga bi rb _ _ [1, 2, 3] w hblk ⟨z26, z26, trivial⟩ hb (by omega) (by decide))) ?_
 rintro v cs L ⟨x0, rfl, hx0, rfl, rfl⟩
 refine AllSl.mk fun a0 => ?_
 refine AllSl.mk fun l2 => ?_
 refine stop_callP _ cl71 rfl rfl rfl rfl ⟨rfl, rfl⟩ rfl rfl (fun A w ga hga hW hblk => (num_c ga bi rb _ _ [1, 2, 0] w hblk ⟨z26, z26, trivial⟩ hb (by omega) (by decide))) ?_
 rintro v cs L ⟨x1, rfl, hx1, rfl, rfl⟩
 refine AllSl.mk fun a1 => ?_
 refine AllSl.mk fun a2 => ?_
 refine AllSl.mk fun l3 => ?_
 refine stop_callP _ cl71 rfl rfl rfl rfl ⟨rfl, rfl⟩ rfl rfl (fun A w ga hga hW hblk => (num_c ga bi rb _ _ [1, 0, 2] w hblk ⟨z26, z26, trivial⟩ hb (by omega) (by decide))) ?_
 rintro v cs L ⟨x2, rfl, hx2, rfl, rfl⟩
 refine AllSl.mk fun a3 => ?_
 refine stop_callP _ cl41 rfl rfl rfl rfl ⟨rfl, rfl⟩ rfl rfl (fun A w ga hga hW hblk => (pick_c ga bi rb _ _ w hblk ⟨z26, trivial⟩ hb (by omega))) ?_
 rintro v cs L ⟨k1, rfl, hk1, _, rfl, rfl⟩
 have hk2 := hk1 (by decide)
 have hn0 : IntKind.i64.wrap (2 + (k1 : Int)) = ((2 + k1 : Nat) : Int) := by rw [wrap_nn] <;> omega
 have ok0 : ProgOk (Prog.mk [x0, 1] [x1] [2] [x2] [[]]) := by
   simp only [List.mem_cons, List.not_mem_nil, or_false] at hx0 hx1 hx2
   refine ⟨⟨by simp, fun x hx => ?_⟩, ⟨by simp, fun x hx => ?_⟩, ⟨by simp, fun x hx => ?_⟩, ⟨by simp, fun x hx => ?_⟩, by simp, by simp, fun t ht => ?_⟩
   · simp at hx; omega
   · simp at hx; omega
   · simp at hx; omega
   · simp at hx; omega
   · simp at ht; subst ht; exact ⟨by simp, fun o ho => by cases ho⟩
 clear hx0 hx1 hx2
 refine LoopW.mk ⟨{ u : Nat × ProgH × Nat // u.1 + u.2.1.threads.length = 2 + k1 ∧ (∀ t ∈ u.2.1.threads, t.m.length ≤ 8 ∧ ∀ o ∈ t.m, OpOk (Prog.mk [x0, 1] [x1] [2] [x2] [[]]) o) ∧ (u.2.1.sems = [x0, 1] ∧ u.2.1.groups = [x1] ∧ u.2.1.barriers = [2] ∧ u.2.1.rooms = [x2]) ∧ u.2.2 ≤ p + 5 + 20 * u.2.1.threads.length },
   fun u => .mk [(0, .p 0 0), (2, .p 1 0), (5, .p 2 0), (6, .v (.int .i64 (u.1.1 : Int)))] 3 0 [(2, 37, 5), (1, 37, 5), (0, 139, 2)] [((0, 0), .v (bi.val rb.length)), ((0, 1), .v (.int .i64 (u.1.2.2 : Int))), ((2, 0), .v (u.1.2.1.h0.val u.1.2.1.sems.length)), ((2, 1), .v (u.1.2.1.h1.val u.1.2.1.groups.length)), ((2, 2), .v (u.1.2.1.h2.val u.1.2.1.barriers.length)), ((2, 3), .v (u.1.2.1.h3.val u.1.2.1.rooms.length)), ((2, 4), .v (u.1.2.1.h4.val u.1.2.1.threads.length))] [fO (progO u.1.2.1), slo bi cByte 1 rb],
   fun u => u.1.1, ⟨(2 + k1, ⟨[x0, 1], [x1], [2], [x2], [], a0, a1, a2, a3, ⟨none, 0⟩⟩, p + 5), rfl, fun t ht => (by cases ht), ⟨rfl, rfl, rfl, rfl⟩, Nat.le_refl _⟩, ?_, ?_⟩
 · refine weak_shift (.joinO [5, 3, 2, 0, 90] (Gs := [[_], [_], [_], [_], [own ⟨none, 0⟩ 47 cOpSH 1 ([] : List OpSH)]]) ⟨.inl ⟨_, rfl, .own⟩, .inl ⟨_, rfl, .own⟩, .inl ⟨_, rfl, .own⟩, .inl ⟨_, rfl, .own⟩, .inr ⟨Nat.le_of_ble_eq_true rfl, fun g hg => by simp only [List.mem_singleton] at hg; subst hg; exact ⟨rfl, rfl, rfl, rfl⟩⟩, trivial⟩ rfl (G := progO ⟨[x0, 1], [x1], [2], [x2], [], a0, a1, a2, a3, ⟨none, 0⟩⟩) (.of_eq rfl)) ?_
   refine weak_mk [0, 4] ?_ ?_ ?_ ?_ ?_ rfl rfl
   · exact zw19
   · exact zw0
   · exact zw19
   · exact zw5
   · repeat (first | exact trivial | refine ⟨.inl ⟨_, rfl, (by first | rfl | ((exact congrArg (fun z => SV.v (Value.int .i64 z)) hn0)))⟩, ?_⟩ | refine ⟨.inr z109, ?_⟩)
 rintro ⟨⟨i, q, p1⟩, i1, i2, i3, i4⟩
 simp only at i1 i2 i3 i4 ⊢
 refine CaseB.mk (fun gi => ?_) (fun gi => ?_)
 · have hi : 0 < i := by have := of_decide_eq_true gi; omega
   have hwi : IntKind.i64.wrap ((i : Int) - 1) = ((i - 1 : Nat) : Int) := by rw [wrap_nn] <;> omega
   refine AllSl.mk fun z0 => ?_
   refine AllSl.mk fun l4 => ?_
   refine stop_callP _ cl71 rfl rfl rfl rfl ⟨rfl, rfl⟩ rfl rfl (fun A w ga hga hW hblk => (num_c ga bi rb _ _ [2, 3, 1, 4, 0] w hblk ⟨z26, z26, trivial⟩ hb (by omega) (by decide))) ?_
   rintro v cs L ⟨m, rfl, hm, rfl, rfl⟩
   have hm4 : 0 ≤ m ∧ m ≤ 4 := by simp at hm; omega
   clear hm
   refine LoopW.mk ⟨{ u : Int × Sl × List Op × Nat // 0 ≤ u.1 ∧ u.1 + u.2.2.1.length = m ∧ (∀ o ∈ u.2.2.1, OpOk q.pure o) ∧ u.2.2.2 ≤ p1 + 1 + 4 * u.2.2.1.length },
     fun u => .mk [(0, .p 0 0), (2, .p 1 0), (5, .p 2 0), (6, .v (.int .i64 (i : Int))), (7, .v (u.1.2.1.val u.1.2.2.1.length)), (8, .v (.int .i64 u.1.1))] 3 0 [(2, 37, 5), (1, 37, 5), (0, 139, 2)] [((0, 0), .v (bi.val rb.length)), ((0, 1), .v (.int .i64 (u.1.2.2.2 : Int))), ((2, 0), .v (q.h0.val q.sems.length)), ((2, 1), .v (q.h1.val q.groups.length)), ((2, 2), .v (q.h2.val q.barriers.length)), ((2, 3), .v (q.h3.val q.rooms.length)), ((2, 4), .v (q.h4.val q.threads.length))] [own u.1.2.1 44 cOp 3 u.1.2.2.1, fO (progO q), slo bi cByte 1 rb],
     fun u => u.1.1.toNat, ⟨(m, z0, [], p1 + 1), hm4.1, by simp, by simp, Nat.le_refl _⟩, ?_, ?_⟩
   · exact weak_mk [1, 2, 3] zw2 zw0 zw2 zw5 zw4 rfl rfl
   rintro ⟨⟨j, z, ops, p2⟩, j1, j2, j3, j4⟩
   simp only at j1 j2 j3 j4 ⊢
   refine CaseB.mk (fun gj => ?_) (fun gj => ?_)
   · have hj : 0 < j := by have := of_decide_eq_true gj; omega
     have hwj : IntKind.i64.wrap (j - 1) = j - 1 := by rw [wrap_nn] <;> omega
     refine stop_callP _ cl126 rfl rfl rfl rfl ⟨rfl, rfl⟩ rfl rfl (fun A w ga hga hW hblk => (op6_c ga bi rb _ q w hblk ⟨hW.getP _ hga rfl 2 rfl (.refl _), hW.getP _ hga rfl 1 rfl (.O_R fun _ h => h), trivial⟩ hb (by omega))) ?_
     rintro v cs L ⟨o, p3, rfl, ho, rfl, hp3, rfl⟩
     refine AllSl.mk fun b => ?_
     refine stop_app encOp 1 tabOk (xs := ops) (ys := [o]) rfl rfl rfl rfl rfl rfl rfl rfl rfl (by decide) ⟨rfl, rfl⟩ rfl z28 z34 z34 (fun z3 => ?_)
     refine ⟨⟨(j - 1, z3, ops ++ [o], p3), show 0 ≤ j - 1 by omega, by simp; omega, fun o' ho' => ?_, by simp; omega⟩, ?_, by simp only; omega⟩
     · rcases List.mem_append.1 ho' with h | h
       · exact j3 _ h
       · simp only [List.mem_singleton] at h; subst h; exact ho
     · exact weak_mk [0, 2, 3] zw6 zw0 zw6 zw5 zw11 rfl rfl
   refine AllSl.mk fun b => ?_
   refine stop_shift (.splitO 2 (L := [own q.h4 47 cOpSH 1 q.threads]) (G' := progR q) rfl (progO_out q)) ?_
   obtain ⟨x, hx⟩ : ∃ x : OpSH, x = ⟨ops, z⟩ := ⟨_, rfl⟩
   refine stop_app encOpSH 0 tabOk (xs := q.threads) (ys := [⟨ops, z⟩]) rfl rfl rfl rfl rfl rfl rfl rfl rfl (by decide) ⟨rfl, rfl⟩ rfl z28 z34 z34 (fun z5 => ?_)
   rw [← hx]
   refine ⟨⟨(i - 1, { q with threads := q.threads ++ [x], h4 := z5 }, p2), by simp; omega, fun t ht => ?_, i3, by simp; omega⟩, ?_, by simp only; omega⟩
   · have hq : q.pure = ⟨[x0, 1], [x1], [2], [x2], q.threads.map (·.m)⟩ := by simp [ProgH.pure, i3.1, i3.2.1, i3.2.2.1, i3.2.2.2]
     rcases List.mem_append.1 ht with ht | ht
     · exact i2 t ht
     · simp only [List.mem_singleton] at ht
       rw [ht, hx]
       exact ⟨by show ops.length ≤ 8; omega, fun o ho => by have := j3 o ho; rw [hq] at this; exact this⟩
   · refine weak_shift (.joinO [0, 1, 3] (Gs := [[_], _, [_]]) ⟨.inl ⟨_, rfl, .own⟩, .inl ⟨_, rfl, .o⟩, .inl ⟨_, rfl, .own⟩, trivial⟩ rfl (G := progO { q with threads := q.threads ++ [x], h4 := z5 }) (by subst hx; exact progO_in q _ z5)) ?_
     exact weak_mk [0, 2] zw9 zw0 zw9 zw5 zw21 rfl rfl
 have hi : i = 0 := by have := of_decide_eq_false gi; omega
 have hq : q.pure = ⟨[x0, 1], [x1], [2], [x2], q.threads.map (·.m)⟩ := by simp [ProgH.pure, i3.1, i3.2.1, i3.2.2.1, i3.2.2.2]
 have hops : ∀ t ∈ q.threads.map (·.m), t.length ≤ 8 ∧ ∀ o ∈ t, OpOk (Prog.mk [x0, 1] [x1] [2] [x2] [[]]) o := fun t ht => by
   obtain ⟨t', ht', rfl⟩ := List.mem_map.1 ht
   exact i2 t' ht'
 have hl : (q.threads.map (·.m)).length = 2 + k1 := by rw [List.length_map]; omega
 have ok : ProgOk q.pure := by
   rw [hq]
   exact ⟨ok0.sems, ok0.groups, ok0.barriers, ok0.rooms, by show 1 ≤ (q.threads.map (·.m)).length; omega, by show (q.threads.map (·.m)).length ≤ 4; omega, hops⟩
 exact retP [0] ⟨q, _, rfl, ok, rfl, by omega, rfl⟩ rfl rfl z115 rfl ⟨rfl, trivial⟩ (fun _ => rfl)
end Go.Proofs.YtjkkoonennpceaaGreat
