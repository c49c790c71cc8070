/- FnCountTurns: texts that its proof stands on, part 9. -/
import Derived.Test.YtijmjecehppbfaaGreatQCountTurnsh
namespace Go.Proofs.YtijmjecehppbfaaGreat
set_option maxRecDepth 100000
set_option maxHeartbeats 100000000
open Go Go.Sx Go.RowKit
theorem hK0 {p : Prog} {s : State} {k : Nat} {ops : List Op} {a st : Int} {op : Op} (r : Rdy p s k ops a st op) (hk : op.kind = 4) : Fits p (kJ p s k op) := by
 obtain ⟨x, hx, hxa, ok, hv, hi⟩ := r.once hk
 have sw := fun x' => mZ hx x'
 have so := fun x' => kB0 hx x'
 have hn : (k : Int) ∉ x.waits := by
   have h := (aZ (g := fun t : Int => t)).1 ((sw x).none r.ev)
   simpa using h
 have hst : s.status.getD (k : Int).toNat 0 = st := by rw [Int.toNat_natCast, List.getD_eq_getElem?_getD, r.h3]; rfl
 have own1 : ∀ (y : Once) (u : Int), y.state = 1 → aN (gY op.on.toNat y) u = if y.owner = u then [op.on] else [] := fun y u h => by
   rw [gY, if_pos h, kT, hi]
 have own0 : ∀ (y : Once) (u : Int), y.state ≠ 1 → aN (gY op.on.toNat y) u = [] := fun y u h => by
   rw [gY, if_neg h]; rfl
 rw [kJ, hxa, hst]
 by_cases h2 : st = 2
 · rw [if_pos h2]
   have hown : aN (cD s) k = [op.on] := by
     rcases r.ow with ⟨e, _⟩ | ⟨_, _, e⟩
     · omega
     · exact e
   have hx1 : x.state = 1 ∧ x.owner = k := by
     have hm : op.on ∈ aN (cD s) k := by rw [hown]; simp
     obtain ⟨j, y, hy, h1, h2, h3⟩ := iF.1 hm
     have e : op.on.toNat = j := by omega
     rw [← e, hx] at hy
     injection hy with hy
     subst hy
     exact ⟨h1, h2⟩
   have o1 := (qZ hx1.1).1 ok
   have nd := fP o1.2.2.1
   obtain ⟨t1, t2⟩ := xN (fun t : Int => t) (fun t : Int => (⟨4, (op.on.toNat : Int), 0⟩ : Waiting)) x.waits x.waits.length (by simpa using nd)
   simp only [List.take_length, List.drop_length, List.map_id'] at t1 t2
   refine r.onFits (s1 := setOnce s op ⟨2, (k : Int), op.arg, []⟩) (who := x.waits) (r.ft.shared.setOnce (s := s) ((aY0 rfl).2 ⟨r.thr, hv, rfl⟩)) rfl rfl rfl r.ft.lsaid r.ft.said
     (sw _) (fun u hu => (so _).same ?_) ((so _).gone (u := (k : Int)) ?_ ?_ ?_) nd t1 (fun u hu _ => t2 u hu) rfl
   · rw [own0 _ _ (show (2 : Int) ≠ 1 by decide), own1 x u hx1.1, hx1.2, if_neg (fun h => hu h.symm)]
   · rw [own1 x _ hx1.1, hx1.2, if_pos rfl]; simp
   · exact own0 _ _ (show (2 : Int) ≠ 1 by decide)
   · rw [hown]; simp
 rw [if_neg h2]
 have hown : aN (cD s) k = [] := by
   rcases r.ow with ⟨_, e⟩ | ⟨e, _⟩
   · exact e
   · exact (h2 e).elim
 rw [Once.enter]
 by_cases e0 : x.state = 0
 · simp only [if_pos e0, if_true]
   have o0 := (aX0 e0).1 ok
   have hw : x.waits = [] := o0.2.2
   refine r.waitFits (s1 := setOnce s op ⟨1, (k : Int), 0, []⟩) (b := 2) (r.ft.shared.setOnce (s := s) ((qZ rfl).2 ⟨r.thr, rfl, show bD [] = true by decide, by simp⟩)) rfl rfl rfl rfl (sw _) (fun u hu => (so _).same ?_) (fun u hu => ?_) (.inr ⟨rfl, rfl, hk, ?_⟩)
   · rw [own0 x u (by omega), own1 _ _ rfl, if_neg (fun h => hu h.symm)]
   · rw [show cR op.on.toNat x = [] by simp [cR, hw]]; rfl
   · exact ((so _).come hown).trans (by rw [own1 _ _ rfl, if_pos rfl])
 by_cases e1 : x.state = 1
 · simp only [if_neg e0, if_pos e1, if_true, if_neg (show ¬ (1 : Int) = 0 by decide)]
   have o1 := (qZ e1).1 ok
   have hok : (k : Int) ≠ x.owner := fun e => by
     have h := (so x).none hown
     rw [own1 x _ e1, if_pos e.symm] at h
     cases h
   have hadd : ∀ u, aN (cR op.on.toNat { x with waits := x.waits ++ [(k : Int)] }) u = aN (cR op.on.toNat x) u ++ (if (k : Int) = u then [⟨4, op.on, 0⟩] else []) := fun u => by
     simp only [cR, List.map_append, dM, List.map_cons, List.map_nil, kT, hi]
   have hsame : ∀ u, aN (gY op.on.toNat { x with waits := x.waits ++ [(k : Int)] }) u = aN (gY op.on.toNat x) u := fun u => rfl
   refine r.waitFits (s1 := setOnce s op { x with waits := x.waits ++ [(k : Int)] }) (b := 1) (r.ft.shared.setOnce (s := s) ((qZ (m := { x with waits := x.waits ++ [(k : Int)] }) e1).2 ⟨o1.1, o1.2.1, gU o1.2.2.1 r.thr hn, ?_⟩)) rfl rfl rfl rfl (sw _) (fun u hu => (so _).same (hsame u)) (fun u hu => ?_) (.inl ⟨rfl, ?_, ((so _).same (hsame _)).trans hown⟩)
   · intro hm
     rcases List.mem_append.1 hm with hm | hm
     · exact o1.2.2.2 hm
     · simp at hm; exact hok hm.symm
   · rw [hadd, if_neg (fun h => hu h.symm), List.append_nil]
   · rw [hadd, if_pos rfl, (sw x).none r.ev, jW, if_neg (by omega), hk]; rfl
 simp only [if_neg e0, if_neg e1, if_neg (show ¬ (2 : Int) = 0 by decide), if_neg (show ¬ (2 : Int) = 1 by decide)]
 exact r.onFits (s1 := setOnce s op x) (who := []) (r.ft.shared.setOnce (s := s) ok) rfl rfl rfl r.ft.lsaid r.ft.said
   (sw x) (fun u hu => (so x).same rfl) (((so x).same rfl).trans hown) (by simp) (fun u hu => by simp at hu) (fun _ _ _ => rfl) ((sw x).none r.ev)
theorem lA (i : Nat) (x : Chan) (u : Int) : aN (dB i x) u = aN (x.senders.map fun l => (l.t, (⟨8, (i : Int), l.v⟩ : Waiting))) u ++ aN (x.getters.map fun t => (t, (⟨9, (i : Int), 0⟩ : Waiting))) u := by rw [dB, dM]
theorem nB {i : Nat} {x : Chan} {u : Int} (h : aN (dB i x) u = []) : u ∉ x.threads := by
 rw [lA, List.append_eq_nil_iff] at h
 intro hm
 rcases List.mem_append.1 hm with hm | hm
 · exact (aZ (g := Letter.t)).1 h.1 hm
 · exact (aZ (g := fun t : Int => t)).1 h.2 (by simpa using hm)
theorem tS {x : Chan} (h : x.Valid) : (x.senders.map (·.t)).Nodup ∧ x.getters.Nodup := by
 have := fP h.di
 rw [Chan.threads, List.nodup_append] at this
 exact ⟨this.1, this.2.1⟩
theorem nC {x : Chan} (h : x.Valid) : x.valid = true := by rw [Chan.valid, decide_eq_true h]
theorem hM0 {p : Prog} {s : State} {k : Nat} {ops : List Op} {a st : Int} {op : Op} (r : Rdy p s k ops a st op) (hk : op.kind = 8) (hl : (lR p s k op).said.length ≤ 64) : Fits p (lR p s k op) := by
 obtain ⟨x, hx, hxa, hv, hval, hi⟩ := r.chan (by omega)
 have sw := fun x' => eW hx x'
 have h0 := (sw x).none r.ev
 have hn := nB h0
 have nd := tS hv
 rw [lR, hxa] at hl ⊢
 by_cases hc : (x.send k op.arg).2.2.2 = true
 · have hv' := eJ0 hc
   obtain ⟨_, c1, c2, c3, c4⟩ := bA0 hc
   rw [if_pos hc] at hl ⊢
   have hsd : x.send k op.arg = if h : 0 < x.getters.length then ({ x with getters := x.getters.drop 1 }, [x.getters[0]], true, true) else if (x.items.length : Int) < x.room then ({ x with items := x.items ++ [op.arg] }, [], true, true) else ({ x with senders := x.senders ++ [⟨(k : Int), op.arg⟩] }, [], false, true) := by
     rw [Chan.send, if_pos ⟨hv, c1, c2, c3, c4⟩]
   rw [hsd] at hv' hl ⊢
   by_cases hg : 0 < x.getters.length
   · simp only [dif_pos hg, if_true] at hv' hl ⊢
     rw [if_neg (by simp)] at hl ⊢
     have hs : x.senders = [] := Classical.byContradiction fun hne => by rw [(hv.se hne).2.1] at hg; simp at hg
     obtain ⟨t1, t2⟩ := xN (fun t : Int => t) (fun t : Int => (⟨9, (op.on.toNat : Int), 0⟩ : Waiting)) x.getters 1 (by simpa using nd.2)
     have e1 : x.getters.take 1 = [x.getters[0]] := jY0 hg
     simp only [e1, List.map_id'] at t1 t2
     have fx : ∀ u, aN (dB op.on.toNat x) u = aN (x.getters.map fun t => (t, (⟨9, (op.on.toNat : Int), 0⟩ : Waiting))) u := fun u => by rw [lA, hs]; rfl
     have fx' : ∀ u, aN (dB op.on.toNat { x with getters := x.getters.drop 1 }) u = aN ((x.getters.drop 1).map fun t => (t, (⟨9, (op.on.toNat : Int), 0⟩ : Waiting))) u := fun u => by rw [lA]; show aN (x.senders.map _) u ++ _ = _; rw [hs]; rfl
     rw [qI] at hl
     refine r.onFits (s1 := jX (setChan s op { x with getters := x.getters.drop 1 }) op.arg) (who := [x.getters[0]]) ((r.ft.shared.setChan (s := s) hx (nC hv') rfl).of rfl rfl rfl rfl rfl) rfl rfl rfl hl
       (fun v h => by
         rcases List.mem_append.1 h with h | h
         · exact r.ft.said v h
         · simp at h; rw [h]; exact hval hk)
       (sw _) (fun _ _ => rfl) (r.own0 (by omega)) (by simp) (fun u hu => by rw [fx, fx']; exact t1 u hu) (fun u hu _ => by rw [fx, fx']; exact t2 u hu) ?_
     rw [fx']
     rw [fx] at h0
     by_cases hm : (k : Int) ∈ [x.getters[0]]
     · exact (t1 _ hm).2
     · exact (t2 _ hm).trans h0
   · simp only [dif_neg hg] at hv' hl ⊢
     by_cases hr : (x.items.length : Int) < x.room
     · simp only [if_pos hr, if_true] at hv' hl ⊢
       exact r.onFits (s1 := setChan s op { x with items := x.items ++ [op.arg] }) (who := []) (r.ft.shared.setChan (s := s) hx (nC hv') rfl) rfl rfl rfl r.ft.lsaid r.ft.said
         (sw _) (fun _ _ => rfl) (r.own0 (by omega)) (by simp) (fun u hu => by simp at hu) (fun _ _ _ => rfl) h0
     · simp only [if_neg hr, Bool.false_eq_true, if_false] at hv' hl ⊢
       have hadd : ∀ u, aN (dB op.on.toNat { x with senders := x.senders ++ [⟨(k : Int), op.arg⟩] }) u = aN (dB op.on.toNat x) u ++ (if (k : Int) = u then [⟨8, op.on, op.arg⟩] else []) := fun u => by
         have hg' : x.getters = [] := by simpa using hg
         simp only [dB, hg', List.map_append, dM, List.map_cons, List.map_nil, kT, hi, List.append_nil]
       refine r.waitFits (s1 := setChan s op _) (b := 1) (r.ft.shared.setChan (s := s) hx (nC hv') rfl) rfl rfl rfl rfl (sw _) (fun _ _ => rfl) (fun u hu => ?_) (.inl ⟨rfl, ?_, r.own0 (by omega)⟩)
       · rw [hadd, if_neg (fun h => hu h.symm), List.append_nil]
       · rw [hadd, if_pos rfl, h0, jW, if_pos (by omega), hk]; rfl
 · rw [if_neg hc]
   exact r.ft.fault (by omega) (by omega)
theorem kH0 {p : Prog} {s : State} {k : Nat} {ops : List Op} {a st : Int} {op : Op} (r : Rdy p s k ops a st op) (hk : op.kind = 9) (hl : (rX p s k op).said.length ≤ 64) : Fits p (rX p s k op) := by
 obtain ⟨x, hx, hxa, hv, hval, hi⟩ := r.chan (by omega)
 have sw := fun x' => eW hx x'
 have h0 := (sw x).none r.ev
 have hn := nB h0
 have nd := tS hv
 have hok : x.Valid ∧ bA (k : Int) = true ∧ ¬ (k : Int) ∈ x.threads := ⟨hv, r.thr, hn⟩
 have hgt : (x.get k).2.2.2.2 = true := by
   rw [Chan.get, if_pos hok]
   split
   · rfl
   · split <;> rfl
 have hv' := hF0 hgt
 have gv : ∀ y ∈ x.gItems, aW y = true := fun y hy => by
   rcases List.mem_append.1 hy with hy | hy
   · exact hv.iv y hy
   · obtain ⟨l, hl, rfl⟩ := List.mem_map.1 hy
     exact hv.sv l (List.mem_of_mem_take hl)
 rw [rX, hxa] at hl ⊢
 have hsd : x.get k = if 0 < x.gItems.length then ({ x with items := x.gItems.drop 1, senders := x.senders.drop 1 }, x.gItems.headD 0, 1, x.gWho, true) else if x.closed = true then ({ x with items := [], senders := [] }, 0, 2, [], true) else ({ x with items := [], senders := [], getters := x.getters ++ [(k : Int)] }, 0, 0, [], true) := by
   rw [Chan.get, if_pos hok]
 rw [hsd] at hv' hl ⊢
 by_cases hc : 0 < x.gItems.length
 · simp only [if_pos hc] at hv' hl ⊢
   rw [if_neg (by decide), if_pos trivial] at hl ⊢
   rw [qI] at hl
   obtain ⟨t1, t2⟩ := xN Letter.t (fun l : Letter => (⟨8, (op.on.toNat : Int), l.v⟩ : Waiting)) x.senders 1 nd.1
   have hgw : x.gWho = (x.senders.take 1).map Letter.t := rfl
   rw [← hgw] at t1 t2
   have fx' : ∀ (its : List Int) u, aN (dB op.on.toNat { x with items := its, senders := x.senders.drop 1 }) u = aN ((x.senders.drop 1).map fun l => (l.t, (⟨8, (op.on.toNat : Int), l.v⟩ : Waiting))) u ++ aN (x.getters.map fun t => (t, (⟨9, (op.on.toNat : Int), 0⟩ : Waiting))) u := fun its u => lA _ _ _
   have hg0 : ∀ u ∈ x.gWho, aN (x.getters.map fun t => (t, (⟨9, (op.on.toNat : Int), 0⟩ : Waiting))) u = [] := fun u hu => by
     by_cases hs : x.senders = []
     · rw [hgw, hs] at hu; simp at hu
     · rw [(hv.se hs).2.1]; rfl
   refine r.onFits (s1 := jX (setChan s op { x with items := x.gItems.drop 1, senders := x.senders.drop 1 }) (x.gItems.headD 0)) (who := x.gWho) ((r.ft.shared.setChan (s := s) hx (nC hv') rfl).of rfl rfl rfl rfl rfl) rfl rfl rfl hl
     (fun v h => by
       rcases List.mem_append.1 h with h | h
       · exact r.ft.said v h
       · simp only [List.mem_singleton] at h
         rw [h, cR0 hc]; exact gv _ (List.getElem_mem hc))
     (sw _) (fun _ _ => rfl) (r.own0 (by omega)) (nd.1.sublist ((List.take_sublist _ _).map _)) (fun u hu => ⟨fun h => (t1 u hu).1 ?_, by rw [fx', (t1 u hu).2, hg0 u hu]; rfl⟩) (fun u hu _ => by rw [fx', lA, t2 u hu]) ?_
   · rw [lA, List.append_eq_nil_iff] at h; exact h.1
   · rw [lA, List.append_eq_nil_iff] at h0
     rw [fx', h0.2, List.append_nil]
     by_cases hm : (k : Int) ∈ x.gWho
     · exact (t1 _ hm).2
     · exact (t2 _ hm).trans h0.1
 · simp only [if_neg hc] at hv' hl ⊢
   have hI : x.items = [] ∧ x.senders = [] := by
     simp [Chan.gItems] at hc
     refine ⟨hc.1, ?_⟩
     cases hs : x.senders with
     | nil => rfl
     | cons a r => simp [hs] at hc
   by_cases hcl : x.closed = true
   · simp only [if_pos hcl] at hv' hl ⊢
     rw [if_neg (by decide), if_neg (by decide)] at hl ⊢
     have fx : ∀ u, aN (dB op.on.toNat { x with items := [], senders := [] }) u = aN (dB op.on.toNat x) u := fun u => by
       rw [lA, lA, hI.2]
     exact r.onFits (s1 := setChan s op { x with items := [], senders := [] }) (who := []) (r.ft.shared.setChan (s := s) hx (nC hv') rfl) rfl rfl rfl r.ft.lsaid r.ft.said
       (sw _) (fun _ _ => rfl) (r.own0 (by omega)) (by simp) (fun u hu => by simp at hu) (fun u _ _ => fx u) ((fx _).trans h0)
   · simp only [if_neg hcl] at hv' hl ⊢
     rw [if_pos trivial] at hl ⊢
     have hadd : ∀ u, aN (dB op.on.toNat { x with items := [], senders := [], getters := x.getters ++ [(k : Int)] }) u = aN (dB op.on.toNat x) u ++ (if (k : Int) = u then [⟨9, op.on, 0⟩] else []) := fun u => by
       simp only [dB, hI.2, List.map_append, dM, List.map_cons, List.map_nil, kT, hi, List.append_assoc]
     refine r.waitFits (s1 := setChan s op _) (b := 1) (r.ft.shared.setChan (s := s) hx (nC hv') rfl) rfl rfl rfl rfl (sw _) (fun _ _ => rfl) (fun u hu => ?_) (.inl ⟨rfl, ?_, r.own0 (by omega)⟩)
     · rw [hadd, if_neg (fun h => hu h.symm), List.append_nil]
     · rw [hadd, if_pos rfl, h0, jW, if_neg (by omega), hk]; rfl
theorem eL0 {p : Prog} {s : State} {k : Nat} {ops : List Op} {a st : Int} {op : Op} (r : Rdy p s k ops a st op) (hk : op.kind = 10) : Fits p (mC p s k op) := by
 obtain ⟨x, hx, hxa, hv, hval, hi⟩ := r.chan (by omega)
 have sw := fun x' => eW hx x'
 have h0 := (sw x).none r.ev
 have nd := tS hv
 rw [mC, hxa]
 by_cases hc : x.close.2.2 = true
 · have hv' := cS0 hc
   obtain ⟨_, c1, c2⟩ := xJ hc
   rw [if_pos hc]
   have hsd : x.close = ({ x with senders := [], getters := [], closed := true }, x.getters, true) := by
     rw [Chan.close, if_pos ⟨hv, c1, c2⟩]
   rw [hsd] at hv' ⊢
   obtain ⟨t1, t2⟩ := xN (fun t : Int => t) (fun t : Int => (⟨9, (op.on.toNat : Int), 0⟩ : Waiting)) x.getters x.getters.length (by simpa using nd.2)
   simp only [List.take_length, List.drop_length, List.map_id'] at t1 t2
   have fx : ∀ u, aN (dB op.on.toNat x) u = aN (x.getters.map fun t => (t, (⟨9, (op.on.toNat : Int), 0⟩ : Waiting))) u := fun u => by rw [lA, c2]; rfl
   exact r.onFits (s1 := setChan s op { x with senders := [], getters := [], closed := true }) (who := x.getters) (r.ft.shared.setChan (s := s) hx (nC hv') rfl) rfl rfl rfl r.ft.lsaid r.ft.said
     (sw _) (fun _ _ => rfl) (r.own0 (by omega)) nd.2 (fun u hu => ⟨by rw [fx]; exact (t1 u hu).1, rfl⟩) (fun u hu _ => by rw [fx]; exact t2 u hu) rfl
 · rw [if_neg hc]
   exact r.ft.fault (by omega) (by omega)
theorem zL {p : Prog} {s : State} {t : Int} (ft : Fits p s) (h : t ∈ cQ s) (hl : (doM p s t).said.length ≤ 64) (hw : ¬ rL p s t) : Fits p (doM p s t) := by
 obtain ⟨k, ops, a, st, op, rfl, r⟩ := rdy ft h
 rw [rL, r.at_] at hw
 rw [doM, r.at_, dD] at hl ⊢
 by_cases k1 : op.kind = 1
 · simp only [if_pos k1] at hl ⊢
   rw [qI] at hl
   exact kF0 r k1 (by simpa [jX] using hl)
 by_cases k2 : op.kind = 2
 · simp only [if_neg k1, if_pos k2] at hl ⊢; exact bC0 r k2
 by_cases k3 : op.kind = 3
 · simp only [if_neg k1, if_neg k2, if_pos k3] at hl ⊢; exact bD0 r k3
 by_cases k4 : op.kind = 4
 · simp only [if_neg k1, if_neg k2, if_neg k3, if_pos k4] at hl ⊢; exact hK0 r k4
 by_cases k5 : op.kind = 5
 · simp only [if_neg k1, if_neg k2, if_neg k3, if_neg k4, if_pos k5] at hl ⊢; exact kG0 r k5
 by_cases k6 : op.kind = 6
 · simp only [if_neg k1, if_neg k2, if_neg k3, if_neg k4, if_neg k5, if_pos k6] at hl ⊢; exact hJ0 r k6
 by_cases k7 : op.kind = 7
 · simp only [if_neg k1, if_neg k2, if_neg k3, if_neg k4, if_neg k5, if_neg k6, if_pos k7] at hl ⊢
   exact cX0 r k7 fun e => hw ⟨k7, e⟩
 by_cases k8 : op.kind = 8
 · simp only [if_neg k1, if_neg k2, if_neg k3, if_neg k4, if_neg k5, if_neg k6, if_neg k7, if_pos k8] at hl ⊢; exact hM0 r k8 hl
 by_cases k9 : op.kind = 9
 · simp only [if_neg k1, if_neg k2, if_neg k3, if_neg k4, if_neg k5, if_neg k6, if_neg k7, if_neg k8, if_pos k9] at hl ⊢; exact kH0 r k9 hl
 simp only [if_neg k1, if_neg k2, if_neg k3, if_neg k4, if_neg k5, if_neg k6, if_neg k7, if_neg k8, if_neg k9] at hl ⊢
 have h10 := r.ok.2.1
 have h11 := r.ok.1
 exact eL0 r (by omega)
theorem mH0 {p : Prog} {s : State} {t : Int} (ft : Fits p s) (h : t ∈ cQ s) (hw : rL p s t) : ¬ Fits p (doM p s t) := by
 obtain ⟨k, ops, a, st, op, rfl, r⟩ := rdy ft h
 rw [rL, r.at_] at hw
 obtain ⟨k7, hw⟩ := hw
 obtain ⟨x, hx, hxa, ok, hi⟩ := r.barrier k7
 have e : doM p s (k : Int) = bB (setBarrier s op ⟨0, 0, []⟩) k 1 := by
   simp only [doM, r.at_, dD, k7, gT, hw]
   simp
 rw [e]
 intro f
 have hi : op.on.toNat < s.barriers.length := (List.getElem?_eq_some_iff.1 hx).1
 have h1 := (f.barriers op.on.toNat ⟨0, 0, []⟩ (by simp [bB, setBarrier, hi])).1.1
 simp at h1
def StepOk (p : Prog) (s : State) (t : Int) : Prop := Fits p s ∧ t ∈ cQ s ∧ (doM p s t).said.length ≤ 64 ∧ Fits p (doM p s t)
theorem sM {p : Prog} {s : State} {t : Int} : StepOk p s t ↔ Fits p s ∧ t ∈ cQ s ∧ (doM p s t).said.length ≤ 64 ∧ ¬ rL p s t :=
 ⟨fun ⟨h1, h2, h3, h4⟩ => ⟨h1, h2, h3, fun hw => mH0 h1 h2 hw h4⟩, fun ⟨h1, h2, h3, h4⟩ => ⟨h1, h2, h3, zL h1 h2 h3 h4⟩⟩
def nD (a : List SemH) (b : List OnceH) (c : List GroupH) (d : List BarrierH) (e : List ChanH) : List Fct := a.flatMap oG ++ (b.flatMap mS ++ (c.flatMap iV ++ (d.flatMap dZ ++ e.flatMap gJ)))
def gP (y : StateH) : List Fct := nD y.sems y.onces y.groups y.barriers y.chans
def qJ (y : StateH) : List Fct := [own y.h0 3 aJ 1 y.places, own y.h1 3 aJ 1 y.status, own y.h2 95 gF 3 y.sems, own y.h3 102 eB 4 y.onces, own y.h4 108 dQ 2 y.groups, own y.h5 114 cY 3 y.barriers, own y.h6 119 fD 5 y.chans, own y.h7 3 aJ 1 y.said]
theorem tT {α : Type} (x : α) (A B L : List α) (h : (A ++ B).Perm L) : (A ++ (x :: B)).Perm (x :: L) := List.perm_middle.trans (.cons x h)
theorem perm8 {α : Type} (a0 a1 a2 a3 a4 a5 a6 a7 : α) (A B C D E : List α) : (a0 :: a1 :: ((a2 :: A) ++ ((a3 :: B) ++ ((a4 :: C) ++ ((a5 :: D) ++ ((a6 :: E) ++ [a7])))))).Perm ([a0, a1, a2, a3, a4, a5, a6, a7] ++ (A ++ (B ++ (C ++ (D ++ E))))) := by
 simp only [List.cons_append, List.nil_append]
 refine .cons a0 (.cons a1 (.cons a2 (tT a3 A _ _ ?_)))
 rw [← List.append_assoc]
 refine tT a4 _ _ _ ?_
 rw [← List.append_assoc]
 refine tT a5 _ _ _ ?_
 rw [← List.append_assoc]
 refine tT a6 _ _ _ ?_
 rw [← List.append_assoc]
 refine tT a7 _ _ _ ?_
 exact .of_eq (by simp [List.append_assoc])
theorem nR (y : StateH) : (aK y).Perm (qJ y ++ gP y) := perm8 _ _ _ _ _ _ _ _ _ _ _ _ _
theorem sN {E : Env} {A : Nat → Nat} {n : Nat} {B : List (Nat × TypeId × Nat)} {M : List ((Nat × Nat) × SV)} {F : List Fct} {w : World} (h : WD E A n B M F w) {G : List Fct} (hG : ∀ g ∈ G, ∃ f ∈ F, Rd f g.aged) : (fR G).P w ∧ ∀ b, (fR G).foot b → b < w.heap.size := by
 refine ⟨fun g hg => ?_, ?_⟩
 · obtain ⟨g0, hg0, rfl⟩ := List.mem_map.1 hg
   obtain ⟨f, hf, hr⟩ := hG g0 hg0
   exact hr.p w (h.fct f hf).1
 · rintro b ⟨g, hg, hb⟩
   obtain ⟨g0, hg0, rfl⟩ := List.mem_map.1 hg
   obtain ⟨f, hf, hr⟩ := hG g0 hg0
   exact ((h.fct f hf).2.1 b (hr.foot b hb)).1
theorem jN {F : List Fct} (y : StateH) (ho : ∀ g ∈ qJ y, g ∈ F) (hin : ∀ g ∈ gP y, ∃ f ∈ F, Rd f g.aged) : ∀ g ∈ aK y, ∃ f ∈ F, Rd f g.aged := by
 intro g hg
 rcases List.mem_append.1 ((nR y).mem_iff.1 hg) with hg | hg
 · exact ⟨g, ho g hg, .aged g⟩
 · exact hin g hg
theorem inO {Zs G : List Fct} (k : Nat) (hk : Zs[k]? = some (fO G)) {g : Fct} (hg : g ∈ G) : ∃ f ∈ Zs, Rd f g.aged := ⟨_, List.mem_of_getElem? hk, .ofO ⟨g, hg, .refl _⟩⟩
theorem inF {F : List Fct} {g : Fct} (hg : g ∈ F) : ∃ f ∈ F, Rd f g.aged := ⟨g, hg, .aged g⟩
theorem qK {α : Type} {f : α → List Fct} {xs : List α} {i : Nat} {x : α} {g : Fct} (h : g ∈ (xs.set i x).flatMap f) : g ∈ xs.flatMap f ∨ g ∈ f x := by
 obtain ⟨z, hz, hg⟩ := List.mem_flatMap.1 h
 rcases List.mem_or_eq_of_mem_set hz with hz | rfl
 · exact .inl (List.mem_flatMap.2 ⟨z, hz, hg⟩)
 · exact .inr hg
theorem oN {a b c d e i x g} (h : g ∈ nD (a.set i x) b c d e) : g ∈ nD a b c d e ∨ g ∈ oG x := by
 rcases List.mem_append.1 h with h | h
 · exact (qK h).imp (fun h => List.mem_append_left _ h) id
 · exact .inl (List.mem_append_right _ h)
theorem kU {a b c d e i x g} (h : g ∈ nD a (b.set i x) c d e) : g ∈ nD a b c d e ∨ g ∈ mS x := by
 rcases List.mem_append.1 h with h | h
 · exact .inl (List.mem_append_left _ h)
 rcases List.mem_append.1 h with h | h
 · exact (qK h).imp (fun h => List.mem_append_right _ (List.mem_append_left _ h)) id
 · exact .inl (List.mem_append_right _ (List.mem_append_right _ h))
theorem lJ {a b c d e i x g} (h : g ∈ nD a b (c.set i x) d e) : g ∈ nD a b c d e ∨ g ∈ iV x := by
 rcases List.mem_append.1 h with h | h
 · exact .inl (List.mem_append_left _ h)
 rcases List.mem_append.1 h with h | h
 · exact .inl (List.mem_append_right _ (List.mem_append_left _ h))
 rcases List.mem_append.1 h with h | h
 · exact (qK h).imp (fun h => List.mem_append_right _ (List.mem_append_right _ (List.mem_append_left _ h))) id
 · exact .inl (List.mem_append_right _ (List.mem_append_right _ (List.mem_append_right _ h)))
theorem lB {a b c d e i x g} (h : g ∈ nD a b c (d.set i x) e) : g ∈ nD a b c d e ∨ g ∈ dZ x := by
 rcases List.mem_append.1 h with h | h
 · exact .inl (List.mem_append_left _ h)
 rcases List.mem_append.1 h with h | h
 · exact .inl (List.mem_append_right _ (List.mem_append_left _ h))
 rcases List.mem_append.1 h with h | h
 · exact .inl (List.mem_append_right _ (List.mem_append_right _ (List.mem_append_left _ h)))
 rcases List.mem_append.1 h with h | h
 · exact (qK h).imp (fun h => List.mem_append_right _ (List.mem_append_right _ (List.mem_append_right _ (List.mem_append_left _ h)))) id
 · exact .inl (List.mem_append_right _ (List.mem_append_right _ (List.mem_append_right _ (List.mem_append_right _ h))))
theorem iH {a b c d e i x g} (h : g ∈ nD a b c d (e.set i x)) : g ∈ nD a b c d e ∨ g ∈ gJ x := by
 rcases List.mem_append.1 h with h | h
 · exact .inl (List.mem_append_left _ h)
 rcases List.mem_append.1 h with h | h
 · exact .inl (List.mem_append_right _ (List.mem_append_left _ h))
 rcases List.mem_append.1 h with h | h
 · exact .inl (List.mem_append_right _ (List.mem_append_right _ (List.mem_append_left _ h)))
 rcases List.mem_append.1 h with h | h
 · exact .inl (List.mem_append_right _ (List.mem_append_right _ (List.mem_append_right _ (List.mem_append_left _ h))))
 · exact (qK h).imp (fun h => List.mem_append_right _ (List.mem_append_right _ (List.mem_append_right _ (List.mem_append_right _ h)))) id
theorem Fits.small {p : Prog} {s : State} (h : Fits p s) : s.small20 := by
 have n4 := h.prog.n4
 have e0 := h.np
 have e1 := h.ns
 have e2 := h.lsems
 have e3 := h.lonces
 have e4 := h.lgroups
 have e5 := h.lbarriers
 have e6 := h.lchans
 have e7 := h.lsaid
 have m0 := h.prog.sems.1
 have m1 := h.prog.groups.1
 have m2 := h.prog.barriers.1
 have m3 := h.prog.rooms.1
 refine ⟨by omega, by omega, ⟨by omega, fun x hx => ?_⟩, ⟨by omega, fun x hx => ?_⟩, ⟨by omega, fun x hx => ?_⟩, ⟨by omega, fun x hx => ?_⟩, ⟨by omega, fun x hx => ?_⟩, by omega⟩
 · obtain ⟨i, hi, rfl⟩ := List.getElem_of_mem hx
   have := (h.sems i _ (List.getElem?_eq_getElem hi)).1.q6
   unfold Sem.small20; omega
 · have := eV (h.onces x hx)
   unfold Once.small20; omega
 · have := fM (h.groups x hx)
   unfold Group.small20; omega
 · obtain ⟨i, hi, rfl⟩ := List.getElem_of_mem hx
   have := fY (h.barriers i _ (List.getElem?_eq_getElem hi)).1
   unfold Barrier.small20; omega
 · obtain ⟨i, hi, rfl⟩ := List.getElem_of_mem hx
   have hv := (h.chans i _ (List.getElem?_eq_getElem hi)).1
   have h1 := mV hv
   have h2 : (s.chans[i]).Valid := by simpa [Chan.valid] using hv
   have := h2.it
   have := h2.r1
   refine ⟨by omega, by omega, by omega⟩
def StepR (p : Prog) (s : State) (t : Int) (v : Value) (L : List Fct) : Prop := ∃ (y : StateH) (b : Bool), v = .tuple #[aM y, .bool b] ∧ (b = true ↔ StepOk p s t) ∧ (b = true → y.pure = doM p s t) ∧ (b = false → y.pure = State.zero) ∧ L = [fO (aK y)]
def gG0 (s : StateH) : List Value := [s.h0.val s.places.length, s.h1.val s.status.length, s.h2.val s.sems.length, s.h3.val s.onces.length, s.h4.val s.groups.length, s.h5.val s.barriers.length, s.h6.val s.chans.length, s.h7.val s.said.length, .int .i64 s.fault]
theorem wJ (f : Int) (g : Nat) (s : StateH) (w : World) (hg : Blk w g 35 (gG0 s)) (h : AtG w [] [fR (aK s)]) (hoff : ∀ f ∈ [] ++ [fR (aK s)], ∀ b, f.foot b → b ≠ g) (hs : s.pure.small20) :
   Calls Tryz.prog 65 #[.int .i64 f, .pointer (some ⟨g, 0, none⟩)] w (vM w g 35 9 [] fun v cs L => ∃ y : StateH, v = .tuple #[aM y, .bool true] ∧ cs = gG0 s ∧ y.pure = fZ s.pure f ∧ L = [fO (aK y)]) := by
 refine vO Tryz.func65 rfl aA w _ rfl _ rfl _ 35 _ 9 rfl hg _ _ h hoff ⟨rfl, rfl, trivial⟩ [.int .i64 f] _ rfl rfl ?_
 refine aB _ pL rfl rfl rfl rfl ⟨rfl, rfl⟩ (fun A w hW => cL s w ⟨hW.get 0 rfl (.refl _), trivial⟩ hs) ?_
 rintro v L ⟨y, rfl, hy, rfl⟩
 obtain ⟨y2, hy2⟩ : ∃ y2 : StateH, y2 = { y with fault := f } := ⟨_, rfl⟩
 refine aP (.joinO [0] (Gs := [_]) ⟨.inl ⟨_, rfl, .o⟩, trivial⟩ rfl (G := aK y2) (by rw [hy2]; exact .of_eq z101)) ?_
 exact vN [0] ⟨y2, by subst hy2; rfl, rfl, by rw [hy2, fZ, ← hy]; rfl, rfl⟩ rfl rfl z151 rfl ⟨rfl, trivial⟩ (fun _ => rfl)
theorem d_box {E : Env} {o : Oper} {Ms : List ((Nat × Nat) × SV)} {Fs : List Fct} {next : St → Prop} {T : List (Nat × SV)} {n c : Nat} {B : List (Nat × TypeId × Nat)} {M : List ((Nat × Nat) × SV)} {F : List Fct} {t : TypeId} {x : Operand} {d : Nat} {s : SV} {l : List SV}
   (hop : o.op = .box t x) (hd : Dst E o d) (hx : bF T x = some s) (hl : iK s = some l) (hnext : kA n 0 l M fun M' => next (.mk ((d, .p n 0) :: T) (n + 1) (c + 1) ((n, t, dG l) :: B) M' F)) :
   OpW (opD E o Ms Fs next T n c B M F) := by
 refine ⟨fun hkm hkf A a w hW hT => ?_⟩
 rw [eH] at hnext
 obtain ⟨h1, h2⟩ := aH hT hx
 obtain ⟨c1, c2, c3⟩ := iL (A := A) hl h2
 have hal := hW.alloc c2 t
 rw [← dF] at hal
 have hcells : (l.map (SV.den A)).toArray = (s.den A).cells := by rw [← c1]
 rw [hcells] at hal
 have hr : (execOp a.eval o).run E.P w = .ok (.value (.pointer (some ⟨w.heap.size, 0, none⟩))) (w.alloc (.cells (s.den A).cells t)) := by
   simp [execOp, hop, Instr.box, newVar, newRow, h1]
 refine aX hr ?_
 rw [hd.1]
 refine ⟨fun k => if k = n then w.heap.size else A k, _, n + 1, c + 1, _, _, F, fun k hk => ?_, Nat.le_succ n, fun x hx => by simp [hx], fun k o v hv => ?_, hkf, hal, fun w2 => ?_, hnext⟩
 · simp only [if_neg (show k ≠ n by omega)]
 · have hm := hkm k o v hv
   obtain ⟨⟨ty, sz, hk⟩, _⟩ := hW.mem k o v hm
   have := (hW.key _ _ _ hk).1
   rw [dK, if_neg (by omega)]
   exact hm
 · have := (hT.alloc w.heap.size w2).put (d := d) (v := .p n 0) (by have := hd.lt; simpa using this) (Nat.lt_succ_self n)
   simpa [SV.den, ptr] using this
theorem tU {m x1 : Sem} {n : Int} {told : List Int} (ok : SemOk m) (h1 : 1 ≤ n) (h : m.release n = some (x1, told)) : (∀ u ∈ told, u ∈ m.queue.map (·.t)) ∧ told.length ≤ 6 := by
 rw [Sem.release] at h
 split at h
 · obtain ⟨j, i1, i2, _⟩ := tR m.queue (m.free + n) (by have := ok.f0; omega) (fun w hw => (ok.cnt w hw).1)
   injection h with h
   injection h with h2 h3
   rw [i2] at h3
   subst h3
   have := ok.q6
   refine ⟨fun u hu => ?_, by simp; omega⟩
   obtain ⟨w, hw, rfl⟩ := List.mem_map.1 hu
   exact List.mem_map_of_mem (List.mem_of_mem_take hw)
 · cases h
theorem cY0 {m x1 : Group} {n : Int} {told : List Int} (ok : eY m) (h : m.add n = some (x1, told)) : (∀ u ∈ told, u ∈ m.waits) ∧ told.length ≤ 6 := by
 have hl := fM ok
 rw [Group.add] at h
 split at h
 · split at h
   · injection h with h; injection h with h2 h3; subst h3; exact ⟨fun u hu => hu, hl⟩
   · injection h with h; injection h with h2 h3; subst h3; exact ⟨fun u hu => by simp at hu, by simp⟩
 · cases h
theorem vS {m x1 : Barrier} {t : Int} {told : List Int} (ok : dO m) (h : m.arrive t = some (x1, told)) : (∀ u ∈ told, u ∈ m.waits ∨ u = t) ∧ told.length ≤ 7 := by
 have hl := fY ok
 rw [Barrier.arrive] at h
 split at h
 · injection h with h; injection h with h2 h3; subst h3; exact ⟨fun u hu => by simp at hu, by simp⟩
 · split at h
   · cases h
   · injection h with h; injection h with h2 h3; subst h3; exact ⟨fun u hu => by simpa using hu, by simp; omega⟩
theorem zM {m x1 : Chan} {t v : Int} {told : List Int} {b1 b2 : Bool} (h : m.send t v = (x1, told, b1, b2)) : (∀ u ∈ told, u ∈ m.threads) ∧ told.length ≤ 1 ∧ (b1 = false → told = []) := by
 rw [Chan.send] at h
 split at h
 · split at h
   · rename_i hg
     simp only [Prod.mk.injEq] at h
     obtain ⟨_, rfl, rfl, _⟩ := h
     refine ⟨fun u hu => ?_, by simp, fun e => by cases e⟩
     obtain rfl := List.mem_singleton.1 hu
     exact List.mem_append_right _ (List.getElem_mem hg)
   · split at h
     · simp only [Prod.mk.injEq] at h
       obtain ⟨_, rfl, rfl, _⟩ := h
       exact ⟨fun u hu => by simp at hu, by simp, fun e => by cases e⟩
     · simp only [Prod.mk.injEq] at h
       obtain ⟨_, rfl, rfl, _⟩ := h
       exact ⟨fun u hu => by simp at hu, by simp, fun _ => rfl⟩
 · simp only [Prod.mk.injEq] at h
   obtain ⟨_, rfl, rfl, _⟩ := h
   exact ⟨fun u hu => by simp at hu, by simp, fun _ => rfl⟩
theorem cZ0 {m x1 : Chan} {t v c : Int} {told : List Int} {b2 : Bool} (h : m.get t = (x1, v, c, told, b2)) : (∀ u ∈ told, u ∈ m.threads) ∧ told.length ≤ 1 ∧ (c = 0 ∨ c = 1 ∨ c = 2) ∧ (c = 0 → told = []) := by
 rw [Chan.get] at h
 split at h
 · split at h
   · simp only [Prod.mk.injEq] at h
     obtain ⟨_, _, rfl, rfl, _⟩ := h
     refine ⟨fun u hu => ?_, by simp [Chan.gWho]; omega, by omega, fun e => by omega⟩
     obtain ⟨l, hl, rfl⟩ := List.mem_map.1 hu
     exact List.mem_append_left _ (List.mem_map_of_mem (List.mem_of_mem_take hl))
   · split at h
     · simp only [Prod.mk.injEq] at h
       obtain ⟨_, _, rfl, rfl, _⟩ := h
       exact ⟨fun u hu => by simp at hu, by simp, by omega, fun _ => rfl⟩
     · simp only [Prod.mk.injEq] at h
       obtain ⟨_, _, rfl, rfl, _⟩ := h
       exact ⟨fun u hu => by simp at hu, by simp, by omega, fun _ => rfl⟩
 · simp only [Prod.mk.injEq] at h
   obtain ⟨_, _, rfl, rfl, _⟩ := h
   exact ⟨fun u hu => by simp at hu, by simp, by omega, fun _ => rfl⟩
theorem xO {m x1 : Chan} {told : List Int} {b2 : Bool} (hv : m.Valid) (h : m.close = (x1, told, b2)) : (∀ u ∈ told, u ∈ m.threads) ∧ told.length ≤ 6 := by
 have hl := hv.len
 rw [Chan.close] at h
 split at h
 · simp only [Prod.mk.injEq] at h
   obtain ⟨_, rfl, _⟩ := h
   exact ⟨fun u hu => List.mem_append_right _ hu, by omega⟩
 · simp only [Prod.mk.injEq] at h
   obtain ⟨_, rfl, _⟩ := h
   exact ⟨fun u hu => by simp at hu, by simp⟩
theorem Chan.Valid.small {m : Chan} (hv : m.Valid) : m.small := by
 have := hv.len
 exact ⟨by omega, by omega, by omega⟩
theorem Rdy.owner {p : Prog} {s : State} {k : Nat} {ops : List Op} {a st : Int} {op : Op} (r : Rdy p s k ops a st op) {x : Once} (hx : s.onces[op.on.toNat]? = some x) (hi : ((op.on.toNat : Nat) : Int) = op.on) (h2 : st = 2) : x.state = 1 ∧ x.owner = k := by
 have hown : aN (cD s) k = [op.on] := by
   rcases r.ow with ⟨e, _⟩ | ⟨_, _, e⟩
   · omega
   · exact e
 have hm : op.on ∈ aN (cD s) k := by rw [hown]; simp
 obtain ⟨j, y, hy, h1, h2, h3⟩ := iF.1 hm
 have e : op.on.toNat = j := by omega
 rw [← e, hx] at hy
 injection hy with hy
 subst hy
 exact ⟨h1, h2⟩
theorem Rdy.stranger {p : Prog} {s : State} {k : Nat} {ops : List Op} {a st : Int} {op : Op} (r : Rdy p s k ops a st op) {x : Once} (hx : s.onces[op.on.toNat]? = some x) (h2 : st ≠ 2) : x.state = 1 → x.owner ≠ k := by
 intro h1 he
 have hown : aN (cD s) k = [] := by
   rcases r.ow with ⟨_, e⟩ | ⟨e, _⟩
   · exact e
   · exact (h2 e).elim
 have : ((op.on.toNat : Nat) : Int) ∈ aN (cD s) k := iF.2 ⟨_, x, hx, h1, he, rfl⟩
 rw [hown] at this
 cases this
theorem dA0 (s : StateH) (w : World) (h : At w [fR (aK s)]) (hb : s.status.length ≤ 1048576) :
   Calls Tryz.prog 47 #[aM s] w (Ret w fun v L => ∃ y : Sl, v = y.val (cQ s.pure).length ∧ L = [own y 3 aJ 1 (cQ s.pure)]) := by
 refine bV Tryz.func47 rfl aA w _ rfl _ rfl _ h ⟨rfl, rfl, trivial⟩ _ (by decide) ?_
 refine AllSl.mk fun y0 => ?_
 refine LoopW.mk ⟨{ q : Nat × Sl × List Int // q.1 ≤ s.status.length ∧ q.2.2 = evL gB 0 (s.status.take q.1) ∧ (q.1 = 0 ∨ s.fault = 0) },
   fun q => .mk [(1, .p 0 0), (3, .v (q.1.2.1.val q.1.2.2.length)), (4, .v (.int .i64 (q.1.1 : Int)))] 1 0 [(0, 35, 9)] [((0, 1), .v (s.h1.val s.status.length)), ((0, 8), .v (.int .i64 s.fault))] [own q.1.2.1 3 aJ 1 q.1.2.2, fR (aK s)],
   fun q => s.status.length - q.1.1, ⟨(0, y0, []), Nat.zero_le _, rfl, .inl rfl⟩, ?_, ?_⟩
 · exact aC [0, 1] zw2 zw0 zw2 zw5 zw4 rfl rfl
 rintro ⟨⟨k, y, xs⟩, hk, hx, hkf⟩
 simp only at hk hx hkf
 have hend : s.status.length ≤ k ∨ ¬ s.fault = 0 → cQ s.pure = xs := fun hn => by
   by_cases f0 : s.fault = 0
   · rw [cQ, if_pos (show s.pure.fault = 0 from f0), hx, List.take_of_length_le (hn.resolve_right fun h => h f0)]; rfl
   · rw [cQ, if_neg (show ¬ s.pure.fault = 0 from f0), hx, hkf.resolve_right f0]; rfl
 apply CaseB.mk <;> intro g
 · have hlt : k < s.status.length := by simpa using g
   apply CaseB.mk <;> intro g
   · have f0 : s.fault = 0 := by simpa using g
     have hw := bE k _ hlt (by omega)
     have hsucc := eU gB s.status hlt
     have hl : xs.length ≤ 1048576 := by have := mW (s.status.take k); rw [← hx] at this; simp at this; omega
     refine aG aD aA rfl rfl rfl rfl rfl ⟨rfl, rfl⟩ (aL 1 rfl (.ofR (cZ s))) k rfl z48 (fun ad => ?_)
     refine CaseB.mk (fun g => ?_) (fun g0 => ?_)
     · have c : s.status[k] = 0 ∨ s.status[k] = 2 := .inl z103
       refine AllSl.mk fun b => ?_
       refine bR aD 1 aA (ys := [(k : Int)]) rfl rfl rfl rfl rfl rfl rfl rfl rfl (by decide) ⟨rfl, rfl⟩ rfl z40 z48 z48 (fun z => ?_)
       refine ⟨⟨(k + 1, z, xs ++ [(k : Int)]), by omega, by simp only [hsucc, gB, if_pos c, hx], .inr f0⟩, ?_, by simp only; omega⟩
       exact aC [0, 2] zw1 zw0 zw1 zw5 zw3 rfl rfl
     have n0 : ¬ s.status[k] = 0 := by simpa using g0
     refine aG aD aA rfl rfl rfl rfl rfl ⟨rfl, rfl⟩ (aL 1 rfl (.ofR (cZ s))) k rfl z48 (fun ad2 => ?_)
     apply CaseB.mk <;> intro g
     · have c : s.status[k] = 0 ∨ s.status[k] = 2 := .inr z103
       refine AllSl.mk fun b => ?_
       refine bR aD 1 aA (ys := [(k : Int)]) rfl rfl rfl rfl rfl rfl rfl rfl rfl (by decide) ⟨rfl, rfl⟩ rfl z40 z48 z48 (fun z => ?_)
       refine ⟨⟨(k + 1, z, xs ++ [(k : Int)]), by omega, by simp only [hsucc, gB, if_pos c, hx], .inr f0⟩, ?_, by simp only; omega⟩
       exact aC [0, 2] zw1 zw0 zw1 zw5 zw3 rfl rfl
     have n2 : ¬ s.status[k] = 2 := by simpa using g
     refine ⟨⟨(k + 1, y, xs), by omega, by simp only [hsucc, gB, if_neg (show ¬ (s.status[k] = 0 ∨ s.status[k] = 2) from fun h => h.elim n0 n2), hx, List.append_nil], .inr f0⟩, ?_, by simp only; omega⟩
     exact aC [0, 1] zw1 zw0 zw1 zw5 zw3 rfl rfl
   · have f0 : ¬ s.fault = 0 := by simpa using g
     rw [hend (.inr f0)]
     exact bC [0] ⟨y, rfl, rfl⟩ z151 rfl ⟨rfl, trivial⟩ (fun _ => rfl)
 have hge : s.status.length ≤ k := by simpa using g
 rw [hend (.inl hge)]
 exact bC [0] ⟨y, rfl, rfl⟩ z151 rfl ⟨rfl, trivial⟩ (fun _ => rfl)
def kI0 (p : Prog) (s : State) (v : Value) (L : List Fct) : Prop := ∃ (y : Sl) (xs : List Int), v = y.val xs.length ∧ (Fits p s → xs = cQ s) ∧ (¬ Fits p s → xs = []) ∧ L = [own y 3 aJ 1 xs]
theorem wD (p : ProgH) (s : StateH) (w : World) (h : At w [fR (aV p), fR (aK s)]) (hp : p.pure.small20) (hs : s.pure.small20) :
   Calls Tryz.prog 79 #[dJ p, aM s] w (Ret w (kI0 p.pure s.pure)) := by
 have hb : s.status.length ≤ 1048576 := hs.2.1
 refine cM Tryz.func79 rfl aA w _ rfl _ rfl _ h ⟨rfl, rfl, rfl, rfl, trivial⟩ _ _ (by decide) ?_
 refine aB _ cl82 rfl rfl rfl rfl ⟨rfl, rfl⟩ (fun A w hW => tP p s w ⟨hW.get 0 rfl (.refl _), hW.get 1 rfl (.refl _), trivial⟩ hp hs) ?_
 rintro v L ⟨b, rfl, hbb, rfl⟩
 apply CaseB.mk <;> intro g
 · have n : ¬ Fits p.pure s.pure := fun e => by rw [hbb.2 e] at g; cases g
   refine AllSl.mk fun y0 => ?_
   exact bC [0] ⟨y0, [], rfl, fun e => (n e).elim, fun _ => rfl, rfl⟩ z151 rfl ⟨rfl, trivial⟩ (fun _ => rfl)
 have ft := hbb.1 z103
 refine aB _ cl47 rfl rfl rfl rfl ⟨rfl, rfl⟩ (fun A w hW => dA0 s w ⟨hW.get 1 rfl (.refl _), trivial⟩ hb) ?_
 rintro v L ⟨y, rfl, rfl⟩
 exact bC [0] ⟨y, _, rfl, fun _ => rfl, fun e => (e ft).elim, rfl⟩ z151 rfl ⟨rfl, trivial⟩ (fun _ => rfl)
theorem eN (p : Prog) : ∀ (who : List Int) (s s' : State), s'.places = s.places → s'.status = s.status → onM p who s' = { s' with places := (onM p who s).places, status := (onM p who s).status }
 | [], s, s', e1, e2 => by cases s'; simp only [onM, List.foldl_nil] at *; simp [e1, e2]
 | x :: r, s, s', e1, e2 => by
   have h := eN p r (goM p s x) (goM p s' x) (by simp only [goM, e1]) (by simp only [goM, e1, e2])
   have e : ∀ s, onM p (x :: r) s = onM p r (goM p s x) := fun _ => rfl
   rw [e, e, h]; rfl
theorem pD (p : Prog) (s s' : State) (t : Int) (b : Bool) (e1 : s'.places = s.places) (e2 : s'.status = s.status) : bY p s' t b = { s' with places := (bY p s t b).places, status := (bY p s t b).status } := by
 unfold bY
 split
 · exact eN p [t] s s' e1 e2
 · simp only [bB, e1, e2]
theorem rC (p : Prog) (a b : List Int) (s : State) : onM p (a ++ b) s = onM p b (onM p a s) := List.foldl_append
theorem fQ {Zs : List Fct} {y : StateH} (k0 k1 k2 k3 k4 k5 k6 k7 : Nat) (e0 : Zs[k0]? = some (own y.h0 3 aJ 1 y.places)) (e1 : Zs[k1]? = some (own y.h1 3 aJ 1 y.status)) (e2 : Zs[k2]? = some (own y.h2 95 gF 3 y.sems)) (e3 : Zs[k3]? = some (own y.h3 102 eB 4 y.onces)) (e4 : Zs[k4]? = some (own y.h4 108 dQ 2 y.groups)) (e5 : Zs[k5]? = some (own y.h5 114 cY 3 y.barriers)) (e6 : Zs[k6]? = some (own y.h6 119 fD 5 y.chans)) (e7 : Zs[k7]? = some (own y.h7 3 aJ 1 y.said)) : ∀ g ∈ qJ y, g ∈ Zs := by
 intro g hg
 simp only [qJ, List.mem_cons, List.not_mem_nil, or_false] at hg
 rcases hg with rfl | rfl | rfl | rfl | rfl | rfl | rfl | rfl
 · exact List.mem_of_getElem? e0
 · exact List.mem_of_getElem? e1
 · exact List.mem_of_getElem? e2
 · exact List.mem_of_getElem? e3
 · exact List.mem_of_getElem? e4
 · exact List.mem_of_getElem? e5
 · exact List.mem_of_getElem? e6
 · exact List.mem_of_getElem? e7
theorem eQ (p : Prog) (s : State) (t : Int) (b : Bool) : (bY p s t b).places.length = s.places.length ∧ (bY p s t b).status.length = s.status.length := by
 unfold bY
 split
 · exact aT p [t] s
 · simp [bB]
theorem bE0 (p : ProgH) (s : StateH) (t : Int) (w : World) (h : At w [fR (aV p), fR (aK s)]) (hp : p.pure.small20) (hs : s.pure.small20) :
   Calls Tryz.prog 28 #[dJ p, aM s, .int .i64 t] w (Ret w (StepR p.pure s.pure t)) := by
 have hb : s.status.length ≤ 1048576 := hs.2.1
 refine kD Tryz.func28 rfl aA w _ rfl _ rfl _ h ⟨rfl, rfl, rfl, rfl, trivial⟩ _ _ _ (by decide) ?_
 refine aB _ cl62 rfl rfl rfl rfl ⟨rfl, rfl⟩ (fun A w hW => cQ0 p s w ⟨hW.get 0 rfl (.refl _), hW.get 1 rfl (.refl _), trivial⟩ hp hs) ?_
 rintro v L ⟨b, rfl, hbb, rfl⟩
 apply CaseB.mk <;> intro g
 · have n : ¬ StepOk p.pure s.pure t := fun e => by rw [hbb.2 e.1] at g; cases g
   refine aP (.joinO [90] (Gs := [_]) ⟨.inr ⟨Nat.le_of_ble_eq_true rfl, eA⟩, trivial⟩ rfl (G := aK StateH.zero) (.of_eq (by simp))) ?_
   exact bC [0] ⟨StateH.zero, false, rfl, tno n, fun e => z110, fun _ => rfl, rfl⟩ z151 rfl ⟨rfl, trivial⟩ (fun _ => rfl)
 have ft := hbb.1 z103
 refine aB _ cl58 rfl rfl rfl rfl ⟨rfl, rfl⟩ (fun A w hW => gC0 s w ⟨hW.get 1 rfl (.refl _), trivial⟩ hb) ?_
 rintro v L ⟨yr, rfl, rfl⟩
 have hrl : (cQ s.pure).length ≤ 1048576 := by
   rw [cQ]; split
   · exact Nat.le_trans (mW _) hb
   · simp
 refine aB _ dV0 rfl rfl rfl rfl ⟨rfl, rfl⟩ (fun A w hW => jG yr (cQ s.pure) t w ⟨z39, trivial⟩ (by omega)) ?_
 rintro v L ⟨rfl, rfl⟩
 apply CaseB.mk <;> intro g
 · have n : ¬ StepOk p.pure s.pure t := fun e => by have := e.2.1; simp [this] at g
   refine aP (.joinO [90] (Gs := [_]) ⟨.inr ⟨Nat.le_of_ble_eq_true rfl, eA⟩, trivial⟩ rfl (G := aK StateH.zero) (.of_eq (by simp))) ?_
   exact bC [0] ⟨StateH.zero, false, rfl, tno n, fun e => z110, fun _ => rfl, rfl⟩ z151 rfl ⟨rfl, trivial⟩ (fun _ => rfl)
 have hm : t ∈ cQ s.pure := by simpa using g
 obtain ⟨k, ops, a, st, op, rfl, r⟩ := rdy ft hm
 have lt : p.pure.threads.length = p.threads.length := by simp [ProgH.pure]
 have hkt : k < p.threads.length := by rw [← lt]; exact r.kn
 have hks : k < s.status.length := (List.getElem?_eq_some_iff.1 r.h3).1
 have hkp : k < s.places.length := (List.getElem?_eq_some_iff.1 r.h2).1
 have hth : (p.threads[k]).m = ops := by have := r.h1; simp only [ProgH.pure, List.getElem?_map, List.getElem?_eq_getElem hkt, Option.map_some, Option.some.injEq] at this; exact this
 have hpl : s.places[k] = a := (List.getElem?_eq_some_iff.1 r.h2).2
 have hz : s.places[k] = ((s.places[k]).toNat : Int) := by have := r.a0; rw [hpl]; omega
 have hlo : (s.places[k]).toNat < (p.threads[k]).m.length := by rw [hth, hpl]; exact (List.getElem?_eq_some_iff.1 r.ho).1
 have hopg : (p.threads[k]).m[(s.places[k]).toNat] = op := by
   have := r.ho
   rw [← hth, ← hpl] at this
   exact (List.getElem?_eq_some_iff.1 this).2
 have n4 : p.threads.length ≤ 4 := by rw [← lt]; exact ft.prog.n4
 refine aE aA z107 z107 z107 200 [((0, 0), .v (p.h0.val p.sems.length)), ((0, 1), .v (p.h1.val p.groups.length)), ((0, 2), .v (p.h2.val p.barriers.length)), ((0, 3), .v (p.h3.val p.rooms.length)), ((0, 4), .v (p.h4.val p.threads.length)), ((1, 0), .v (s.h0.val s.places.length)), ((1, 1), .v (s.h1.val s.status.length)), ((1, 2), .v (s.h2.val s.sems.length)), ((1, 3), .v (s.h3.val s.onces.length)), ((1, 4), .v (s.h4.val s.groups.length)), ((1, 5), .v (s.h5.val s.barriers.length)), ((1, 6), .v (s.h6.val s.chans.length)), ((1, 7), .v (s.h7.val s.said.length)), ((1, 8), .v (.int .i64 s.fault))] [] [] z111 z117 trivial rfl ?_
 refine bL _ pL rfl rfl rfl rfl ⟨rfl, rfl⟩ (fun A w hW => cL s w ⟨hW.get 2 rfl (.refl _), trivial⟩ hs) ?_
 rintro v L ⟨y, rfl, hy, rfl⟩
 have hy0 : y.places = s.places := congrArg State.places hy
 have hy1 : y.status = s.status := congrArg State.status hy
 have hy2 : y.sems.map (·.m) = s.sems.map (·.m) := congrArg State.sems hy
 have hy3 : y.onces.map (·.m) = s.onces.map (·.m) := congrArg State.onces hy
 have hy4 : y.groups.map (·.m) = s.groups.map (·.m) := congrArg State.groups hy
 have hy5 : y.barriers.map (·.m) = s.barriers.map (·.m) := congrArg State.barriers hy
 have hy6 : y.chans.map (·.m) = s.chans.map (·.m) := congrArg State.chans hy
 have hy7 : y.said = s.said := congrArg State.said hy
 have hnp : s.places.length = p.threads.length := by rw [← lt]; exact ft.np
 have hns : s.status.length = p.threads.length := by rw [← lt]; exact ft.ns
 have hnm : y.places.length = y.status.length := by rw [hy0, hy1, hnp, hns]
 have hn : p.threads.length = y.places.length := by rw [hy0, hnp]
 have hn4 : y.places.length ≤ 100 := by omega
 have hkn : 0 ≤ (k : Int) ∧ (k : Int) < (y.places.length : Int) := by omega
 have hw1 : ∀ x ∈ [(k : Int)], 0 ≤ x ∧ x < (y.places.length : Int) := fun x hx => by simp at hx; rw [hx]; exact hkn
 have hsd : y.said.length ≤ 64 := by rw [hy7]; exact ft.lsaid
 have hp0 : ∀ a ∈ y.pure.places, 0 ≤ a ∧ a ≤ 20 := by
   rw [hy]
   intro x hx
   obtain ⟨u, hu, rfl⟩ := List.getElem_of_mem hx
   have hu2 : u < p.pure.threads.length := by rw [← ft.np]; exact hu
   obtain ⟨c0, c1, _⟩ := ft.threads u _ _ _ (List.getElem?_eq_getElem hu2) (List.getElem?_eq_getElem hu) (List.getElem?_eq_getElem (by rw [ft.ns]; exact hu2))
   have := (ft.prog.ops _ (List.getElem_mem hu2)).1
   exact ⟨c0, by omega⟩
 have hpA : ∀ a ∈ y.pure.places, 0 ≤ a ∧ a ≤ 100 := fun x hx => by have := hp0 x hx; omega
 refine d_box rfl ⟨rfl, rfl⟩ rfl rfl ?_
 conv => whnf
 apply jI
 · exact Shift.read 2 (f := fR (aV p)) (g := slo p.h4 kI 1 p.threads) rfl rfl rfl rfl (.trans (.R_R (aY p)) (.ofR bG))
 apply jI
 · exact Shift.splitO 1 (L := qJ y) (G := aK y) (G' := gP y) rfl (nR y)
 refine aE aA z107 z107 z107 200 [((0, 4), .v (p.h4.val p.threads.length)), ((1, 0), .v (s.h0.val s.places.length))] [11, 12] [_, _] z142 z152 ⟨rfl, rfl, trivial⟩ rfl ?_
 refine bM (ti := aU tab) dR aA rfl rfl rfl rfl rfl ⟨rfl, rfl⟩ (aL 0 rfl (.trans (.R_R (aY p)) (.ofR bG))) k rfl z48 (fun ad1 => ?_)
 refine bM (ti := aU tab) aD aA rfl rfl rfl rfl rfl ⟨rfl, rfl⟩ (aL 1 rfl (.ofR (fX s))) k rfl z48 (fun ad2 => ?_)
 refine bM (ti := aU tab) oH aA rfl rfl rfl rfl rfl ⟨rfl, rfl⟩ (aL 0 rfl (.trans (.R_R (aY p)) (.ofR (fW _ _ k hkt)))) (s.places[k]).toNat hz z48 (fun ad3 => ?_)
 rw [hopg]
 have hdm : doM p.pure s.pure k = dD p.pure s.pure k op := by rw [doM, r.at_]
 have hso : StepOk p.pure s.pure k ↔ (doM p.pure s.pure k).said.length ≤ 64 ∧ ¬ rL p.pure s.pure k := by
   rw [sM]; exact ⟨fun e => e.2.2, fun e => ⟨ft, hm, e⟩⟩
 have hwn : op.kind ≠ 7 → ¬ rL p.pure s.pure k := fun hk hw => by rw [rL, r.at_] at hw; exact hk hw.1
 refine CaseB.mk (fun g => ?_) (fun g1 => ?_)
 · have k1 : op.kind = 1 := by simpa using g
   refine cB _ [7] (G := [_]) oB0 rfl rfl rfl rfl ⟨rfl, rfl⟩ rfl rfl ⟨rfl, trivial⟩ ⟨rfl, rfl, trivial⟩ (fun A w ga hga hW hblk => (kE0 ga _ _ p y y.h7 y.said false op.arg w hblk (hW.atG [7] (G := [_]) ⟨rfl, trivial⟩ rfl ⟨rfl, rfl, trivial⟩ [] (Fo := []) trivial rfl) (hW.atG_off z108 hga (ix := [7]) (G := [_]) ⟨rfl, trivial⟩ (jx := []) (Fo := []) trivial) (by omega))) ?_
   rintro v cs L ⟨rfl, z9, rfl, rfl⟩
   refine AllSl.mk fun zt => ?_
   refine cB _ [2, 3] (G := [_, _]) sE rfl rfl rfl rfl ⟨rfl, rfl⟩ rfl rfl ⟨rfl, rfl, trivial⟩ ⟨rfl, rfl, rfl, rfl, trivial⟩ (fun A w ga hga hW hblk => (jM ga _ _ p y _ _ zt [(k : Int)] (y.pure) w hblk (hW.atG [2, 3] (G := [_, _]) ⟨rfl, rfl, trivial⟩ rfl ⟨rfl, rfl, rfl, rfl, trivial⟩ [10, 0] (Fo := [_, _]) z149 rfl) (hW.atG_off z108 hga (ix := [2, 3]) (G := [_, _]) ⟨rfl, rfl, trivial⟩ (jx := [10, 0]) (Fo := [_, _]) z149) rfl rfl hnm hn hw1 (by simp) hpA hn4)) ?_
   rintro v cs L ⟨rfl, rfl, rfl⟩
   have hlp : (onM p.pure [(k : Int)] (y.pure)).places.length = y.places.length := ((aT _ _ _).1.trans rfl)
   have hls : (onM p.pure [(k : Int)] (y.pure)).status.length = y.status.length := ((aT _ _ _).2.trans rfl)
   apply CaseB.mk <;> intro g
   · have hf : 64 ≤ y.said.length := by simpa using g
     have n : ¬ StepOk p.pure s.pure k := fun e => by
       have h := (hso.1 e).1
       rw [hdm, dD, if_pos k1, qI] at h
       have h' : (s.said ++ [op.arg]).length ≤ 64 := h
       rw [← hy7] at h'
       simp at h'
       omega
     refine aP (.joinO [90] (Gs := [_]) ⟨.inr ⟨Nat.le_of_ble_eq_true rfl, eA⟩, trivial⟩ rfl (G := aK StateH.zero) (.of_eq (by simp))) ?_
     exact bC [0] ⟨StateH.zero, false, rfl, tno n, fun e => z110, fun _ => rfl, rfl⟩ z151 rfl ⟨rfl, trivial⟩ (fun _ => rfl)
   have hf : ¬ 64 ≤ y.said.length := by simpa using g
   obtain ⟨y9, hy9⟩ : ∃ y9 : StateH, y9 = ⟨(onM p.pure [(k : Int)] (y.pure)).places, (onM p.pure [(k : Int)] (y.pure)).status, y.sems, y.onces, y.groups, y.barriers, y.chans, (kP y.said op.arg), y.fault, y.h0, y.h1, y.h2, y.h3, y.h4, y.h5, y.h6, z9⟩ := ⟨_, rfl⟩
   have hP : y9.pure = doM p.pure s.pure k := by
     rw [hdm, dD, if_pos k1, ← hy, eN p.pure [(k : Int)] y.pure (jX y.pure op.arg) rfl rfl, hy9]
     simp only [kP, if_neg hf]
     rfl
   have h64 : (doM p.pure s.pure k).said.length ≤ 64 := by
     rw [← hP, hy9]
     show (kP y.said op.arg).length ≤ 64
     rw [kP, if_neg hf]
     simp; omega
   have hok : StepOk p.pure s.pure k := hso.2 ⟨h64, hwn (by omega)⟩
   have hsm : y9.pure.small20 := by rw [hP]; exact hok.2.2.2.small
   have hv : aM y9 = .agg #[y.h0.val y.places.length, y.h1.val y.status.length, y.h2.val y.sems.length, y.h3.val y.onces.length, y.h4.val y.groups.length, y.h5.val y.barriers.length, y.h6.val y.chans.length, (z9).val ((kP y.said op.arg)).length, .int .i64 y.fault] := by
     rw [hy9]; simp only [aM, hlp, hls]
   have hcl := fun w h => cL y9 w h hsm
   rw [hv] at hcl
   refine aB _ pL rfl rfl rfl rfl ⟨rfl, rfl⟩ (fun A w hW => hcl w ⟨sN hW (jN y9 (by rw [hy9]; exact fQ 0 1 4 5 6 7 8 3 rfl rfl rfl rfl rfl rfl rfl rfl) (by rw [hy9]; exact fun g hg => inO 9 rfl hg)), trivial⟩) ?_
   rintro v L ⟨y3, rfl, hy3, rfl⟩
   exact bC [0] ⟨y3, true, rfl, iZ hok, fun _ => hy3.trans hP, fun e => z110, rfl⟩ z151 rfl ⟨rfl, trivial⟩ (fun _ => rfl)
 refine CaseB.mk (fun g => ?_) (fun g2 => ?_)
 · have hk : op.kind = 2 := by simpa using g
   obtain ⟨x, hx, hxa, ok, a1, a2, hi⟩ := r.sem (.inl hk)
   have hil : op.on.toNat < s.sems.length := by have := (List.getElem?_eq_some_iff.1 hx).1; simpa [StateH.pure] using this
   have hxe : (s.sems[op.on.toNat]'hil).m = x := by have := hx; simp only [StateH.pure, List.getElem?_map, List.getElem?_eq_getElem hil, Option.map_some, Option.some.injEq] at this; exact this
   subst hxe
   have hjl : op.on.toNat < y.sems.length := by have := congrArg List.length hy2; simp at this; omega
   have hnq := fun u (h : aN (bH s.pure) u = []) => (kS hx (s.sems[op.on.toNat]).m).none h
   have hD : doM p.pure s.pure k = jS p.pure s.pure k op := by rw [hdm, dD, if_neg (by omega), if_pos hk]
   have hq := aZ.1 (hnq _ r.ev)
   obtain ⟨x1, b1, hac⟩ : ∃ x1 b1, (s.sems[op.on.toNat]'hil).m.acquire k op.arg = (x1, b1) := ⟨_, _, rfl⟩
   refine aE aA z107 z107 z107 200 [((1, 2), .v (s.h2.val s.sems.length)), ((4, 1), .v (.int .i64 op.on)), ((4, 2), .v (.int .i64 op.arg))] [12] [_] z136 z148 ⟨rfl, trivial⟩ rfl ?_
   refine bM (ti := aU tab) dC aA rfl rfl rfl rfl rfl ⟨rfl, rfl⟩ (aL 0 rfl (.trans (.R_R (bW s)) (.ofR bG))) op.on.toNat hi.symm z48 (fun ad5 => ?_)
   refine BothW.mk ?_ ?_
   all_goals
     refine bL _ cl68 rfl rfl rfl rfl ⟨rfl, rfl⟩ (fun A w hW => hI0 _ _ _ _ w ⟨hW.get 12 rfl (.trans (.R_R (bW s)) (.ofR (kH _ _ op.on.toNat hil))), trivial⟩ ok r.thr hq a1 a2) ?_
     rw [hac]
     rintro v L ⟨q1, rfl, rfl⟩
     refine fJ 3 rfl (show 0 < y.sems.length by omega) fun gg hgg _ _ => ?_
     refine aE aA z107 z107 z107 200 [((3, 7), .v (y.h2.val y.sems.length)), ((4, 1), .v (.int .i64 op.on)), ((5, 0), .v (.int .i64 (x1).free)), ((5, 1), .v (.int .i64 (x1).limit)), ((5, 2), .v (q1.val (x1).queue.length))] [] [] z123 z140 trivial rfl ?_
     refine iA (ti := aU tab) aA rfl rfl rfl rfl rfl ⟨rfl, rfl⟩ hgg op.on.toNat hi.symm hjl ?_
     refine fK (ti := aU tab) dC 3 aA rfl rfl rfl rfl rfl rfl rfl rfl hgg op.on.toNat 0 ⟨x1, q1⟩ rfl hjl rfl (gF ⟨x1, q1⟩) (fun _ => rfl) z79 z105 ?_
     refine cB _ [2, 3] (G := [_, _]) iR0 rfl rfl rfl rfl ⟨rfl, rfl⟩ rfl rfl ⟨rfl, rfl, trivial⟩ ⟨rfl, rfl, rfl, rfl, trivial⟩ (fun A w ga hga hW hblk => (qH ga _ _ p y _ _ k (b1) (y.pure) w hblk (hW.atG [2, 3] (G := [_, _]) ⟨rfl, rfl, trivial⟩ rfl ⟨rfl, rfl, rfl, rfl, trivial⟩ [10] (Fo := [_]) z155 rfl) (hW.atG_off z108 hga (ix := [2, 3]) (G := [_, _]) ⟨rfl, rfl, trivial⟩ (jx := [10]) (Fo := [_]) z155) rfl rfl hnm hn hkn hpA hn4)) ?_
     rintro v cs L ⟨rfl, rfl, rfl⟩
     have hlp : (bY p.pure (y.pure) k (b1)).places.length = y.places.length := ((eQ _ _ _ _).1.trans rfl)
     have hls : (bY p.pure (y.pure) k (b1)).status.length = y.status.length := ((eQ _ _ _ _).2.trans rfl)
     refine CaseB.mk (fun g => by cases g) (fun _ => ?_)
     obtain ⟨y9, hy9⟩ : ∃ y9 : StateH, y9 = ⟨(bY p.pure (y.pure) k (b1)).places, (bY p.pure (y.pure) k (b1)).status, (y.sems.set op.on.toNat ⟨x1, q1⟩), y.onces, y.groups, y.barriers, y.chans, y.said, y.fault, y.h0, y.h1, y.h2, y.h3, y.h4, y.h5, y.h6, y.h7⟩ := ⟨_, rfl⟩
     have hP : y9.pure = doM p.pure s.pure k := by
       rw [hD, jS, hxa, hac]
       show _ = bY p.pure (setSem s.pure op x1) k b1
       rw [← hy, pD p.pure y.pure (setSem y.pure op x1) k b1 rfl rfl, hy9]
       simp only [StateH.pure, setSem, List.map_set]
     have h64 : (doM p.pure s.pure k).said.length ≤ 64 := by
       rw [← hP, hy9]
       exact hsd
     have hok : StepOk p.pure s.pure k := hso.2 ⟨h64, hwn (by omega)⟩
     have hsm : y9.pure.small20 := by rw [hP]; exact hok.2.2.2.small
     have hv : aM y9 = aM y := by
       rw [hy9]; simp only [aM, hlp, hls, List.length_set]
     have hcl := fun w h => cL y9 w h hsm
     rw [hv] at hcl
     refine aB _ pL rfl rfl rfl rfl ⟨rfl, rfl⟩ (fun A w hW => hcl w ⟨sN hW (jN y9 (by rw [hy9]; exact fQ 0 1 2 4 5 6 7 8 rfl rfl rfl rfl rfl rfl rfl rfl) (by rw [hy9]; exact fun g hg => (oN hg).elim (fun h => inO 9 rfl h) (fun h => by obtain rfl := List.mem_singleton.1 h; exact inF (List.mem_of_getElem? (i := 3) rfl)))), trivial⟩) ?_
     rintro v L ⟨y3, rfl, hy3, rfl⟩
     exact bC [0] ⟨y3, true, rfl, iZ hok, fun _ => hy3.trans hP, fun e => z110, rfl⟩ z151 rfl ⟨rfl, trivial⟩ (fun _ => rfl)
 refine CaseB.mk (fun g => ?_) (fun g3 => ?_)
 · have hk : op.kind = 3 := by simpa using g
   obtain ⟨x, hx, hxa, ok, a1, a2, hi⟩ := r.sem (.inr hk)
   have hil : op.on.toNat < s.sems.length := by have := (List.getElem?_eq_some_iff.1 hx).1; simpa [StateH.pure] using this
   have hxe : (s.sems[op.on.toNat]'hil).m = x := by have := hx; simp only [StateH.pure, List.getElem?_map, List.getElem?_eq_getElem hil, Option.map_some, Option.some.injEq] at this; exact this
   subst hxe
   have hjl : op.on.toNat < y.sems.length := by have := congrArg List.length hy2; simp at this; omega
   have hnq := fun u (h : aN (bH s.pure) u = []) => (kS hx (s.sems[op.on.toNat]).m).none h
   have hD : doM p.pure s.pure k = iR p.pure s.pure k op := by rw [hdm, dD, if_neg (by omega), if_neg (by omega), if_pos hk]
   rcases hres : (s.sems[op.on.toNat]'hil).m.release op.arg with _ | ⟨x1, told⟩
   · have hF : doM p.pure s.pure k = fZ s.pure 1 := by rw [hD, iR, hxa, hres]
     refine aE aA z107 z107 z107 200 [((1, 2), .v (s.h2.val s.sems.length)), ((4, 1), .v (.int .i64 op.on)), ((4, 2), .v (.int .i64 op.arg))] [12] [_] z136 z148 ⟨rfl, trivial⟩ rfl ?_
     refine bM (ti := aU tab) dC aA rfl rfl rfl rfl rfl ⟨rfl, rfl⟩ (aL 0 rfl (.trans (.R_R (bW s)) (.ofR bG))) op.on.toNat hi.symm z48 (fun ad5 => ?_)
     refine BothW.mk ?_ ?_
     all_goals
       refine bL _ cl70 rfl rfl rfl rfl ⟨rfl, rfl⟩ (fun A w hW => zJ _ _ _ w ⟨hW.get 12 rfl (.trans (.R_R (bW s)) (.ofR (kH _ _ op.on.toNat hil))), trivial⟩ ok a1 a2) ?_
       rw [hres]
       rintro v L ⟨q1, z1, rfl, rfl⟩
       refine CaseB.mk (fun _ => ?_) (fun g => by simp at g)
       have hok : StepOk p.pure s.pure k := hso.2 ⟨by rw [hF]; exact ft.lsaid, hwn (by omega)⟩
       refine eC _ [] (G := []) lV0 rfl rfl rfl rfl ⟨rfl, rfl⟩ rfl rfl trivial trivial (fun A w ga hga hW hblk => wJ 1 ga s w hblk (hW.atG [] (G := []) trivial rfl trivial [12] (Fo := [_]) z139 rfl) (hW.atG_off z108 hga (ix := []) (G := []) trivial (jx := [12]) (Fo := [_]) z139) hs) ?_
       rintro v cs L ⟨y3, rfl, rfl, hy3, rfl⟩
       exact bC [0] ⟨y3, true, rfl, iZ hok, fun _ => hy3.trans hF.symm, fun e => z110, rfl⟩ z151 rfl ⟨rfl, trivial⟩ (fun _ => rfl)
   have htin := tU ok a1 hres
   have htl : told.length ≤ 100 := by omega
   have htold : ∀ u ∈ told, 0 ≤ u ∧ u < (y.places.length : Int) := fun u hu => by
     have := ft.isIn fun h0 => aZ.1 (hnq u h0) (htin.1 u hu)
     rw [lt] at this
     omega
   refine aE aA z107 z107 z107 200 [((1, 2), .v (s.h2.val s.sems.length)), ((4, 1), .v (.int .i64 op.on)), ((4, 2), .v (.int .i64 op.arg))] [12] [_] z136 z148 ⟨rfl, trivial⟩ rfl ?_
   refine bM (ti := aU tab) dC aA rfl rfl rfl rfl rfl ⟨rfl, rfl⟩ (aL 0 rfl (.trans (.R_R (bW s)) (.ofR bG))) op.on.toNat hi.symm z48 (fun ad5 => ?_)
   refine BothW.mk ?_ ?_
   all_goals
     refine bL _ cl70 rfl rfl rfl rfl ⟨rfl, rfl⟩ (fun A w hW => zJ _ _ _ w ⟨hW.get 12 rfl (.trans (.R_R (bW s)) (.ofR (kH _ _ op.on.toNat hil))), trivial⟩ ok a1 a2) ?_
     rw [hres]
     rintro v L ⟨q1, z1, rfl, rfl⟩
     refine CaseB.mk (fun g => by simp at g) (fun _ => ?_)
     refine fJ 4 rfl (show 0 < y.sems.length by omega) fun gg hgg _ _ => ?_
     refine aE aA z107 z107 z107 200 [((3, 7), .v (y.h2.val y.sems.length)), ((4, 1), .v (.int .i64 op.on)), ((5, 0), .v (.int .i64 (x1).free)), ((5, 1), .v (.int .i64 (x1).limit)), ((5, 2), .v (q1.val (x1).queue.length))] [] [] z123 z140 trivial rfl ?_
     refine iA (ti := aU tab) aA rfl rfl rfl rfl rfl ⟨rfl, rfl⟩ hgg op.on.toNat hi.symm hjl ?_
     refine fK (ti := aU tab) dC 4 aA rfl rfl rfl rfl rfl rfl rfl rfl hgg op.on.toNat 0 ⟨x1, q1⟩ rfl hjl rfl (gF ⟨x1, q1⟩) (fun _ => rfl) z79 z105 ?_
     refine cB _ [3, 4] (G := [_, _]) sE rfl rfl rfl rfl ⟨rfl, rfl⟩ rfl rfl ⟨rfl, rfl, trivial⟩ ⟨rfl, rfl, rfl, rfl, trivial⟩ (fun A w ga hga hW hblk => (jM ga _ _ p y _ _ _ told (y.pure) w hblk (hW.atG [3, 4] (G := [_, _]) ⟨rfl, rfl, trivial⟩ rfl ⟨rfl, rfl, rfl, rfl, trivial⟩ [11, 2] (Fo := [_, _]) z149 rfl) (hW.atG_off z108 hga (ix := [3, 4]) (G := [_, _]) ⟨rfl, rfl, trivial⟩ (jx := [11, 2]) (Fo := [_, _]) z149) rfl rfl hnm hn htold htl hpA hn4)) ?_
     rintro v cs L ⟨rfl, rfl, rfl⟩
     refine AllSl.mk fun zt => ?_
     refine cB _ [1, 2] (G := [_, _]) sE rfl rfl rfl rfl ⟨rfl, rfl⟩ rfl rfl ⟨rfl, rfl, trivial⟩ ⟨rfl, rfl, rfl, rfl, trivial⟩ (fun A w ga hga hW hblk => (jM ga _ _ p y _ _ zt [(k : Int)] (onM p.pure told (y.pure)) w hblk (hW.atG [1, 2] (G := [_, _]) ⟨rfl, rfl, trivial⟩ rfl ⟨rfl, rfl, rfl, rfl, trivial⟩ [12, 0] (Fo := [_, _]) z149 rfl) (hW.atG_off z108 hga (ix := [1, 2]) (G := [_, _]) ⟨rfl, rfl, trivial⟩ (jx := [12, 0]) (Fo := [_, _]) z149) ((aT _ _ _).1.trans rfl) ((aT _ _ _).2.trans rfl) hnm hn hw1 (by simp) (fun x hx => by have := gV p.pure told y.pure 20 (by omega) hp0 x hx; omega) hn4)) ?_
     rintro v cs L ⟨rfl, rfl, rfl⟩
     have hlp : (onM p.pure [(k : Int)] (onM p.pure told (y.pure))).places.length = y.places.length := ((aT _ _ _).1.trans ((aT _ _ _).1.trans rfl))
     have hls : (onM p.pure [(k : Int)] (onM p.pure told (y.pure))).status.length = y.status.length := ((aT _ _ _).2.trans ((aT _ _ _).2.trans rfl))
     refine CaseB.mk (fun g => by cases g) (fun _ => ?_)
     obtain ⟨y9, hy9⟩ : ∃ y9 : StateH, y9 = ⟨(onM p.pure [(k : Int)] (onM p.pure told (y.pure))).places, (onM p.pure [(k : Int)] (onM p.pure told (y.pure))).status, (y.sems.set op.on.toNat ⟨x1, q1⟩), y.onces, y.groups, y.barriers, y.chans, y.said, y.fault, y.h0, y.h1, y.h2, y.h3, y.h4, y.h5, y.h6, y.h7⟩ := ⟨_, rfl⟩
     have hP : y9.pure = doM p.pure s.pure k := by
       rw [hD, iR, hxa, hres]
       show _ = onM p.pure (told ++ [(k : Int)]) (setSem s.pure op x1)
       rw [← hy, eN p.pure (told ++ [(k : Int)]) y.pure (setSem y.pure op x1) rfl rfl, rC, hy9]
       simp only [StateH.pure, setSem, List.map_set]
     have h64 : (doM p.pure s.pure k).said.length ≤ 64 := by
       rw [← hP, hy9]
       exact hsd
     have hok : StepOk p.pure s.pure k := hso.2 ⟨h64, hwn (by omega)⟩
     have hsm : y9.pure.small20 := by rw [hP]; exact hok.2.2.2.small
     have hv : aM y9 = aM y := by
       rw [hy9]; simp only [aM, hlp, hls, List.length_set]
     have hcl := fun w h => cL y9 w h hsm
     rw [hv] at hcl
     refine aB _ pL rfl rfl rfl rfl ⟨rfl, rfl⟩ (fun A w hW => hcl w ⟨sN hW (jN y9 (by rw [hy9]; exact fQ 0 1 3 6 7 8 9 10 rfl rfl rfl rfl rfl rfl rfl rfl) (by rw [hy9]; exact fun g hg => (oN hg).elim (fun h => inO 11 rfl h) (fun h => by obtain rfl := List.mem_singleton.1 h; exact inF (List.mem_of_getElem? (i := 4) rfl)))), trivial⟩) ?_
     rintro v L ⟨y3, rfl, hy3, rfl⟩
     exact bC [0] ⟨y3, true, rfl, iZ hok, fun _ => hy3.trans hP, fun e => z110, rfl⟩ z151 rfl ⟨rfl, trivial⟩ (fun _ => rfl)
 refine CaseB.mk (fun g => ?_) (fun g4 => ?_)
 · have hk : op.kind = 4 := by simpa using g
   obtain ⟨x, hx, hxa, ok, hval, hi⟩ := r.once hk
   have hil : op.on.toNat < s.onces.length := by have := (List.getElem?_eq_some_iff.1 hx).1; simpa [StateH.pure] using this
   have hxe : (s.onces[op.on.toNat]'hil).m = x := by have := hx; simp only [StateH.pure, List.getElem?_map, List.getElem?_eq_getElem hil, Option.map_some, Option.some.injEq] at this; exact this
   subst hxe
   have hjl : op.on.toNat < y.onces.length := by have := congrArg List.length hy3; simp at this; omega
   have hnq := fun u (h : aN (bH s.pure) u = []) => (mZ hx (s.onces[op.on.toNat]).m).none h
   have hD : doM p.pure s.pure k = kJ p.pure s.pure k op := by rw [hdm, dD, if_neg (by omega), if_neg (by omega), if_neg (by omega), if_pos hk]
   have hq : (k : Int) ∉ (s.onces[op.on.toNat]'hil).m.waits := by simpa using (aZ (g := fun t : Int => t)).1 (hnq _ r.ev)
   have hst : s.pure.status.getD (k : Int).toNat 0 = st := by rw [Int.toNat_natCast, List.getD_eq_getElem?_getD, r.h3]; rfl
   have hst2 : s.status[k] = st := (List.getElem?_eq_some_iff.1 r.h3).2
   refine aG aD aA rfl rfl rfl rfl rfl ⟨rfl, rfl⟩ (aL 12 rfl (.ofR (cZ s))) k rfl z48 (fun ad6 => ?_)
   apply CaseB.mk <;> intro g
   · have h2 : st = 2 := by rw [← hst2]; simpa using g
     obtain ⟨w1, w2⟩ := r.owner hx hi h2
     obtain ⟨x1, told, hres⟩ : ∃ x1 told, (s.onces[op.on.toNat]'hil).m.finish k op.arg = (x1, told) := ⟨_, _, rfl⟩
     have hte : told = (s.onces[op.on.toNat]'hil).m.waits := by have := hres; simp only [Once.finish, Prod.mk.injEq] at this; exact this.2.symm
     have htin := (⟨hte.symm, by rw [hte]; exact eV ok⟩ : (s.onces[op.on.toNat]'hil).m.waits = told ∧ told.length ≤ 6)
     have htl : told.length ≤ 100 := by omega
     have htold : ∀ u ∈ told, 0 ≤ u ∧ u < (y.places.length : Int) := fun u hu => by
       have := ft.isIn fun h0 => (aZ (g := fun t : Int => t)).1 (hnq u h0) (by rw [← htin.1] at *; simpa using hu)
       rw [lt] at this
       omega
     refine aE aA z107 z107 z107 200 [((1, 3), .v (s.h3.val s.onces.length)), ((4, 1), .v (.int .i64 op.on)), ((4, 2), .v (.int .i64 op.arg))] [12] [_] z136 z148 ⟨rfl, trivial⟩ rfl ?_
     refine bM (ti := aU tab) cX aA rfl rfl rfl rfl rfl ⟨rfl, rfl⟩ (aL 0 rfl (.trans (.R_R (bX s)) (.ofR bG))) op.on.toNat hi.symm z48 (fun ad5 => ?_)
     refine BothW.mk ?_ ?_
     all_goals
       refine bL _ cl71 rfl rfl rfl rfl ⟨rfl, rfl⟩ (fun A w hW => kD0 _ _ _ _ w ⟨hW.get 12 rfl (.trans (.R_R (bX s)) (.ofR (iW _ _ op.on.toNat hil))), trivial⟩ ok w1 w2 hval) ?_
       rw [hres]
       rintro v L ⟨q1, z1, rfl, rfl⟩
       refine fJ 5 rfl (show 0 < y.onces.length by omega) fun gg hgg _ _ => ?_
       refine aE aA z107 z107 z107 200 [((3, 8), .v (y.h3.val y.onces.length)), ((4, 1), .v (.int .i64 op.on)), ((5, 0), .v (.int .i64 (x1).state)), ((5, 1), .v (.int .i64 (x1).owner)), ((5, 2), .v (.int .i64 (x1).value)), ((5, 3), .v (q1.val (x1).waits.length))] [] [] z120 z137 trivial rfl ?_
       refine iA (ti := aU tab) aA rfl rfl rfl rfl rfl ⟨rfl, rfl⟩ hgg op.on.toNat hi.symm hjl ?_
       refine fK (ti := aU tab) cX 5 aA rfl rfl rfl rfl rfl rfl rfl rfl hgg op.on.toNat 0 ⟨x1, q1⟩ rfl hjl rfl (eB ⟨x1, q1⟩) (fun _ => rfl) z79 z105 ?_
       refine cB _ [3, 4] (G := [_, _]) sE rfl rfl rfl rfl ⟨rfl, rfl⟩ rfl rfl ⟨rfl, rfl, trivial⟩ ⟨rfl, rfl, rfl, rfl, trivial⟩ (fun A w ga hga hW hblk => (jM ga _ _ p y _ _ _ told (y.pure) w hblk (hW.atG [3, 4] (G := [_, _]) ⟨rfl, rfl, trivial⟩ rfl ⟨rfl, rfl, rfl, rfl, trivial⟩ [11, 2] (Fo := [_, _]) z149 rfl) (hW.atG_off z108 hga (ix := [3, 4]) (G := [_, _]) ⟨rfl, rfl, trivial⟩ (jx := [11, 2]) (Fo := [_, _]) z149) rfl rfl hnm hn htold htl hpA hn4)) ?_
       rintro v cs L ⟨rfl, rfl, rfl⟩
       refine AllSl.mk fun zt => ?_
       refine cB _ [1, 2] (G := [_, _]) sE rfl rfl rfl rfl ⟨rfl, rfl⟩ rfl rfl ⟨rfl, rfl, trivial⟩ ⟨rfl, rfl, rfl, rfl, trivial⟩ (fun A w ga hga hW hblk => (jM ga _ _ p y _ _ zt [(k : Int)] (onM p.pure told (y.pure)) w hblk (hW.atG [1, 2] (G := [_, _]) ⟨rfl, rfl, trivial⟩ rfl ⟨rfl, rfl, rfl, rfl, trivial⟩ [12, 0] (Fo := [_, _]) z149 rfl) (hW.atG_off z108 hga (ix := [1, 2]) (G := [_, _]) ⟨rfl, rfl, trivial⟩ (jx := [12, 0]) (Fo := [_, _]) z149) ((aT _ _ _).1.trans rfl) ((aT _ _ _).2.trans rfl) hnm hn hw1 (by simp) (fun x hx => by have := gV p.pure told y.pure 20 (by omega) hp0 x hx; omega) hn4)) ?_
       rintro v cs L ⟨rfl, rfl, rfl⟩
       have hlp : (onM p.pure [(k : Int)] (onM p.pure told (y.pure))).places.length = y.places.length := ((aT _ _ _).1.trans ((aT _ _ _).1.trans rfl))
       have hls : (onM p.pure [(k : Int)] (onM p.pure told (y.pure))).status.length = y.status.length := ((aT _ _ _).2.trans ((aT _ _ _).2.trans rfl))
       refine CaseB.mk (fun g => by cases g) (fun _ => ?_)
       obtain ⟨y9, hy9⟩ : ∃ y9 : StateH, y9 = ⟨(onM p.pure [(k : Int)] (onM p.pure told (y.pure))).places, (onM p.pure [(k : Int)] (onM p.pure told (y.pure))).status, y.sems, (y.onces.set op.on.toNat ⟨x1, q1⟩), y.groups, y.barriers, y.chans, y.said, y.fault, y.h0, y.h1, y.h2, y.h3, y.h4, y.h5, y.h6, y.h7⟩ := ⟨_, rfl⟩
       have hP : y9.pure = doM p.pure s.pure k := by
         rw [hD, kJ, hst, if_pos h2, hxa, hres]
         show _ = onM p.pure (told ++ [(k : Int)]) (setOnce s.pure op x1)
         rw [← hy, eN p.pure (told ++ [(k : Int)]) y.pure (setOnce y.pure op x1) rfl rfl, rC, hy9]
         simp only [StateH.pure, setOnce, List.map_set]
       have h64 : (doM p.pure s.pure k).said.length ≤ 64 := by
         rw [← hP, hy9]
         exact hsd
       have hok : StepOk p.pure s.pure k := hso.2 ⟨h64, hwn (by omega)⟩
       have hsm : y9.pure.small20 := by rw [hP]; exact hok.2.2.2.small
       have hv : aM y9 = aM y := by
         rw [hy9]; simp only [aM, hlp, hls, List.length_set]
       have hcl := fun w h => cL y9 w h hsm
       rw [hv] at hcl
       refine aB _ pL rfl rfl rfl rfl ⟨rfl, rfl⟩ (fun A w hW => hcl w ⟨sN hW (jN y9 (by rw [hy9]; exact fQ 0 1 6 3 7 8 9 10 rfl rfl rfl rfl rfl rfl rfl rfl) (by rw [hy9]; exact fun g hg => (kU hg).elim (fun h => inO 11 rfl h) (fun h => by obtain rfl := List.mem_singleton.1 h; exact inF (List.mem_of_getElem? (i := 4) rfl)))), trivial⟩) ?_
       rintro v L ⟨y3, rfl, hy3, rfl⟩
       exact bC [0] ⟨y3, true, rfl, iZ hok, fun _ => hy3.trans hP, fun e => z110, rfl⟩ z151 rfl ⟨rfl, trivial⟩ (fun _ => rfl)
   have h2 : ¬ st = 2 := by rw [← hst2]; simpa using g
   obtain ⟨x1, c1, hres⟩ : ∃ x1 c1, (s.onces[op.on.toNat]'hil).m.enter k = (x1, c1) := ⟨_, _, rfl⟩
   refine aG cX aA rfl rfl rfl rfl rfl ⟨rfl, rfl⟩ (aL 12 rfl (.trans (.R_R (bX s)) (.ofR bG))) op.on.toNat hi.symm z48 (fun ad5 => ?_)
   refine aB _ cl72 rfl rfl rfl rfl ⟨rfl, rfl⟩ (fun A w hW => mG0 _ _ _ w ⟨hW.get 12 rfl (.trans (.R_R (bX s)) (.ofR (iW _ _ op.on.toNat hil))), trivial⟩ ok r.thr hq (r.stranger hx h2)) ?_
   rw [hres]
   rintro v L ⟨q1, rfl, rfl⟩
   refine fJ 4 rfl (show 0 < y.onces.length by omega) fun gg hgg _ _ => ?_
   refine aE aA z107 z107 z107 200 [((3, 8), .v (y.h3.val y.onces.length)), ((4, 1), .v (.int .i64 op.on)), ((5, 0), .v (.int .i64 (x1).state)), ((5, 1), .v (.int .i64 (x1).owner)), ((5, 2), .v (.int .i64 (x1).value)), ((5, 3), .v (q1.val (x1).waits.length))] [] [] z120 z137 trivial rfl ?_
   refine iA (ti := aU tab) aA rfl rfl rfl rfl rfl ⟨rfl, rfl⟩ hgg op.on.toNat hi.symm hjl ?_
   refine fK (ti := aU tab) cX 4 aA rfl rfl rfl rfl rfl rfl rfl rfl hgg op.on.toNat 0 ⟨x1, q1⟩ rfl hjl rfl (eB ⟨x1, q1⟩) (fun _ => rfl) z79 z105 ?_
   apply CaseB.mk <;> intro g
   · have e0 : c1 = 0 := by simpa using g
     refine cE aD 3 aA rfl rfl rfl rfl rfl ⟨rfl, rfl⟩ rfl (rfl).symm k rfl (by omega) (fun gs hgs => ?_)
     refine bP aD 3 aA rfl rfl rfl rfl rfl rfl rfl rfl hgs k 0 2 rfl (by omega) rfl [.int .i64 2] (fun _ => rfl) rfl ?_
     have hlp : (bB (y.pure) k 2).places.length = y.places.length := rfl
     have hls : (bB (y.pure) k 2).status.length = y.status.length := ((List.length_set ..).trans rfl)
     refine CaseB.mk (fun g => by cases g) (fun _ => ?_)
     obtain ⟨y9, hy9⟩ : ∃ y9 : StateH, y9 = ⟨(bB (y.pure) k 2).places, (bB (y.pure) k 2).status, y.sems, (y.onces.set op.on.toNat ⟨x1, q1⟩), y.groups, y.barriers, y.chans, y.said, y.fault, y.h0, y.h1, y.h2, y.h3, y.h4, y.h5, y.h6, y.h7⟩ := ⟨_, rfl⟩
     have hP : y9.pure = doM p.pure s.pure k := by
       rw [hD, kJ, hst, if_neg h2, hxa, hres]
       show _ = if c1 = 0 then bB (setOnce s.pure op x1) k 2 else if c1 = 1 then bB (setOnce s.pure op x1) k 1 else onM p.pure [(k : Int)] (setOnce s.pure op x1)
       rw [if_pos e0, ← hy, hy9]
       simp only [StateH.pure, setOnce, List.map_set, bB]
     have h64 : (doM p.pure s.pure k).said.length ≤ 64 := by
       rw [← hP, hy9]
       exact hsd
     have hok : StepOk p.pure s.pure k := hso.2 ⟨h64, hwn (by omega)⟩
     have hsm : y9.pure.small20 := by rw [hP]; exact hok.2.2.2.small
     have hv : aM y9 = aM y := by
       rw [hy9]; simp only [aM, hlp, hls, List.length_set]
     have hcl := fun w h => cL y9 w h hsm
     rw [hv] at hcl
     refine aB _ pL rfl rfl rfl rfl ⟨rfl, rfl⟩ (fun A w hW => hcl w ⟨sN hW (jN y9 z69 z46), trivial⟩) ?_
     rintro v L ⟨y3, rfl, hy3, rfl⟩
     exact bC [0] ⟨y3, true, rfl, iZ hok, fun _ => hy3.trans hP, fun e => z110, rfl⟩ z151 rfl ⟨rfl, trivial⟩ (fun _ => rfl)
   have e0 : ¬ c1 = 0 := by simpa using g
   apply CaseB.mk <;> intro g
   · have e1 : c1 = 1 := by simpa using g
     refine cE aD 3 aA rfl rfl rfl rfl rfl ⟨rfl, rfl⟩ rfl (rfl).symm k rfl (by omega) (fun gs hgs => ?_)
     refine bP aD 3 aA rfl rfl rfl rfl rfl rfl rfl rfl hgs k 0 1 rfl (by omega) rfl [.int .i64 1] (fun _ => rfl) rfl ?_
     have hlp : (bB (y.pure) k 1).places.length = y.places.length := rfl
     have hls : (bB (y.pure) k 1).status.length = y.status.length := ((List.length_set ..).trans rfl)
     refine CaseB.mk (fun g => by cases g) (fun _ => ?_)
     obtain ⟨y9, hy9⟩ : ∃ y9 : StateH, y9 = ⟨(bB (y.pure) k 1).places, (bB (y.pure) k 1).status, y.sems, (y.onces.set op.on.toNat ⟨x1, q1⟩), y.groups, y.barriers, y.chans, y.said, y.fault, y.h0, y.h1, y.h2, y.h3, y.h4, y.h5, y.h6, y.h7⟩ := ⟨_, rfl⟩
     have hP : y9.pure = doM p.pure s.pure k := by
       rw [hD, kJ, hst, if_neg h2, hxa, hres]
       show _ = if c1 = 0 then bB (setOnce s.pure op x1) k 2 else if c1 = 1 then bB (setOnce s.pure op x1) k 1 else onM p.pure [(k : Int)] (setOnce s.pure op x1)
       rw [if_neg e0, if_pos e1, ← hy, hy9]
       simp only [StateH.pure, setOnce, List.map_set, bB]
     have h64 : (doM p.pure s.pure k).said.length ≤ 64 := by
       rw [← hP, hy9]
       exact hsd
     have hok : StepOk p.pure s.pure k := hso.2 ⟨h64, hwn (by omega)⟩
     have hsm : y9.pure.small20 := by rw [hP]; exact hok.2.2.2.small
     have hv : aM y9 = aM y := by
       rw [hy9]; simp only [aM, hlp, hls, List.length_set]
     have hcl := fun w h => cL y9 w h hsm
     rw [hv] at hcl
     refine aB _ pL rfl rfl rfl rfl ⟨rfl, rfl⟩ (fun A w hW => hcl w ⟨sN hW (jN y9 z69 z46), trivial⟩) ?_
     rintro v L ⟨y3, rfl, hy3, rfl⟩
     exact bC [0] ⟨y3, true, rfl, iZ hok, fun _ => hy3.trans hP, fun e => z110, rfl⟩ z151 rfl ⟨rfl, trivial⟩ (fun _ => rfl)
   have e1 : ¬ c1 = 1 := by simpa using g
   refine AllSl.mk fun zt => ?_
   refine cB _ [3, 4] (G := [_, _]) sE rfl rfl rfl rfl ⟨rfl, rfl⟩ rfl rfl ⟨rfl, rfl, trivial⟩ ⟨rfl, rfl, rfl, rfl, trivial⟩ (fun A w ga hga hW hblk => (jM ga _ _ p y _ _ zt [(k : Int)] (y.pure) w hblk (hW.atG [3, 4] (G := [_, _]) ⟨rfl, rfl, trivial⟩ rfl ⟨rfl, rfl, rfl, rfl, trivial⟩ [11, 0] (Fo := [_, _]) z149 rfl) (hW.atG_off z108 hga (ix := [3, 4]) (G := [_, _]) ⟨rfl, rfl, trivial⟩ (jx := [11, 0]) (Fo := [_, _]) z149) rfl rfl hnm hn hw1 (by simp) hpA hn4)) ?_
   rintro v cs L ⟨rfl, rfl, rfl⟩
   have hlp : (onM p.pure [(k : Int)] (y.pure)).places.length = y.places.length := ((aT _ _ _).1.trans rfl)
   have hls : (onM p.pure [(k : Int)] (y.pure)).status.length = y.status.length := ((aT _ _ _).2.trans rfl)
   refine CaseB.mk (fun g => by cases g) (fun _ => ?_)
   obtain ⟨y9, hy9⟩ : ∃ y9 : StateH, y9 = ⟨(onM p.pure [(k : Int)] (y.pure)).places, (onM p.pure [(k : Int)] (y.pure)).status, y.sems, (y.onces.set op.on.toNat ⟨x1, q1⟩), y.groups, y.barriers, y.chans, y.said, y.fault, y.h0, y.h1, y.h2, y.h3, y.h4, y.h5, y.h6, y.h7⟩ := ⟨_, rfl⟩
   have hP : y9.pure = doM p.pure s.pure k := by
     rw [hD, kJ, hst, if_neg h2, hxa, hres]
     show _ = if c1 = 0 then bB (setOnce s.pure op x1) k 2 else if c1 = 1 then bB (setOnce s.pure op x1) k 1 else onM p.pure [(k : Int)] (setOnce s.pure op x1)
     rw [if_neg e0, if_neg e1, ← hy, eN p.pure [(k : Int)] y.pure (setOnce y.pure op x1) rfl rfl, hy9]
     simp only [StateH.pure, setOnce, List.map_set]
   have h64 : (doM p.pure s.pure k).said.length ≤ 64 := by
     rw [← hP, hy9]
     exact hsd
   have hok : StepOk p.pure s.pure k := hso.2 ⟨h64, hwn (by omega)⟩
   have hsm : y9.pure.small20 := by rw [hP]; exact hok.2.2.2.small
   have hv : aM y9 = aM y := by
     rw [hy9]; simp only [aM, hlp, hls, List.length_set]
   have hcl := fun w h => cL y9 w h hsm
   rw [hv] at hcl
   refine aB _ pL rfl rfl rfl rfl ⟨rfl, rfl⟩ (fun A w hW => hcl w ⟨sN hW (jN y9 z70 (by rw [hy9]; exact fun g hg => (kU hg).elim (fun h => inO 10 rfl h) (fun h => by obtain rfl := List.mem_singleton.1 h; exact inF (List.mem_of_getElem? (i := 4) rfl)))), trivial⟩) ?_
   rintro v L ⟨y3, rfl, hy3, rfl⟩
   exact bC [0] ⟨y3, true, rfl, iZ hok, fun _ => hy3.trans hP, fun e => z110, rfl⟩ z151 rfl ⟨rfl, trivial⟩ (fun _ => rfl)
 refine CaseB.mk (fun g => ?_) (fun g5 => ?_)
 · have hk : op.kind = 5 := by simpa using g
   obtain ⟨x, hx, hxa, ok, ha, hi⟩ := r.group (.inl hk)
   have hil : op.on.toNat < s.groups.length := by have := (List.getElem?_eq_some_iff.1 hx).1; simpa [StateH.pure] using this
   have hxe : (s.groups[op.on.toNat]'hil).m = x := by have := hx; simp only [StateH.pure, List.getElem?_map, List.getElem?_eq_getElem hil, Option.map_some, Option.some.injEq] at this; exact this
   subst hxe
   have hjl : op.on.toNat < y.groups.length := by have := congrArg List.length hy4; simp at this; omega
   have hnq := fun u (h : aN (bH s.pure) u = []) => (iG hx (s.groups[op.on.toNat]).m).none h
   have hD : doM p.pure s.pure k = tQ p.pure s.pure k op := by rw [hdm, dD, if_neg (by omega), if_neg (by omega), if_neg (by omega), if_neg (by omega), if_pos hk]
   rcases hres : (s.groups[op.on.toNat]'hil).m.add op.arg with _ | ⟨x1, told⟩
   · have hF : doM p.pure s.pure k = fZ s.pure 2 := by rw [hD, tQ, hxa, hres]
     refine aE aA z107 z107 z107 200 [((1, 4), .v (s.h4.val s.groups.length)), ((4, 1), .v (.int .i64 op.on)), ((4, 2), .v (.int .i64 op.arg))] [12] [_] z136 z148 ⟨rfl, trivial⟩ rfl ?_
     refine bM (ti := aU tab) cJ aA rfl rfl rfl rfl rfl ⟨rfl, rfl⟩ (aL 0 rfl (.trans (.R_R (bO s)) (.ofR bG))) op.on.toNat hi.symm z48 (fun ad5 => ?_)
     refine BothW.mk ?_ ?_
     all_goals
       refine bL _ cl73 rfl rfl rfl rfl ⟨rfl, rfl⟩ (fun A w hW => nP0 _ _ _ w ⟨hW.get 12 rfl (.trans (.R_R (bO s)) (.ofR (fG _ _ op.on.toNat hil))), trivial⟩ ok (ha hk).1 (ha hk).2) ?_
       rw [hres]
       rintro v L ⟨q1, z1, rfl, rfl⟩
       refine CaseB.mk (fun _ => ?_) (fun g => by simp at g)
       have hok : StepOk p.pure s.pure k := hso.2 ⟨by rw [hF]; exact ft.lsaid, hwn (by omega)⟩
       refine eC _ [] (G := []) lV0 rfl rfl rfl rfl ⟨rfl, rfl⟩ rfl rfl trivial trivial (fun A w ga hga hW hblk => wJ 2 ga s w hblk (hW.atG [] (G := []) trivial rfl trivial [12] (Fo := [_]) z139 rfl) (hW.atG_off z108 hga (ix := []) (G := []) trivial (jx := [12]) (Fo := [_]) z139) hs) ?_
       rintro v cs L ⟨y3, rfl, rfl, hy3, rfl⟩
       exact bC [0] ⟨y3, true, rfl, iZ hok, fun _ => hy3.trans hF.symm, fun e => z110, rfl⟩ z151 rfl ⟨rfl, trivial⟩ (fun _ => rfl)
   have htin := cY0 ok hres
   have htl : told.length ≤ 100 := by omega
   have htold : ∀ u ∈ told, 0 ≤ u ∧ u < (y.places.length : Int) := fun u hu => by
     have := ft.isIn fun h0 => (aZ (g := fun t : Int => t)).1 (hnq u h0) (by simpa using htin.1 u hu)
     rw [lt] at this
     omega
   refine aE aA z107 z107 z107 200 [((1, 4), .v (s.h4.val s.groups.length)), ((4, 1), .v (.int .i64 op.on)), ((4, 2), .v (.int .i64 op.arg))] [12] [_] z136 z148 ⟨rfl, trivial⟩ rfl ?_
   refine bM (ti := aU tab) cJ aA rfl rfl rfl rfl rfl ⟨rfl, rfl⟩ (aL 0 rfl (.trans (.R_R (bO s)) (.ofR bG))) op.on.toNat hi.symm z48 (fun ad5 => ?_)
   refine BothW.mk ?_ ?_
   all_goals
     refine bL _ cl73 rfl rfl rfl rfl ⟨rfl, rfl⟩ (fun A w hW => nP0 _ _ _ w ⟨hW.get 12 rfl (.trans (.R_R (bO s)) (.ofR (fG _ _ op.on.toNat hil))), trivial⟩ ok (ha hk).1 (ha hk).2) ?_
     rw [hres]
     rintro v L ⟨q1, z1, rfl, rfl⟩
     refine CaseB.mk (fun g => by simp at g) (fun _ => ?_)
     refine fJ 6 rfl (show 0 < y.groups.length by omega) fun gg hgg _ _ => ?_
     refine aE aA z107 z107 z107 200 [((3, 9), .v (y.h4.val y.groups.length)), ((4, 1), .v (.int .i64 op.on)), ((5, 0), .v (.int .i64 (x1).count)), ((5, 1), .v (q1.val (x1).waits.length))] [] [] z129 z145 trivial rfl ?_
     refine iA (ti := aU tab) aA rfl rfl rfl rfl rfl ⟨rfl, rfl⟩ hgg op.on.toNat hi.symm hjl ?_
     refine fK (ti := aU tab) cJ 6 aA rfl rfl rfl rfl rfl rfl rfl rfl hgg op.on.toNat 0 ⟨x1, q1⟩ rfl hjl rfl (dQ ⟨x1, q1⟩) (fun _ => rfl) z79 z105 ?_
     refine cB _ [3, 4] (G := [_, _]) sE rfl rfl rfl rfl ⟨rfl, rfl⟩ rfl rfl ⟨rfl, rfl, trivial⟩ ⟨rfl, rfl, rfl, rfl, trivial⟩ (fun A w ga hga hW hblk => (jM ga _ _ p y _ _ _ told (y.pure) w hblk (hW.atG [3, 4] (G := [_, _]) ⟨rfl, rfl, trivial⟩ rfl ⟨rfl, rfl, rfl, rfl, trivial⟩ [11, 2] (Fo := [_, _]) z149 rfl) (hW.atG_off z108 hga (ix := [3, 4]) (G := [_, _]) ⟨rfl, rfl, trivial⟩ (jx := [11, 2]) (Fo := [_, _]) z149) rfl rfl hnm hn htold htl hpA hn4)) ?_
     rintro v cs L ⟨rfl, rfl, rfl⟩
     refine AllSl.mk fun zt => ?_
     refine cB _ [1, 2] (G := [_, _]) sE rfl rfl rfl rfl ⟨rfl, rfl⟩ rfl rfl ⟨rfl, rfl, trivial⟩ ⟨rfl, rfl, rfl, rfl, trivial⟩ (fun A w ga hga hW hblk => (jM ga _ _ p y _ _ zt [(k : Int)] (onM p.pure told (y.pure)) w hblk (hW.atG [1, 2] (G := [_, _]) ⟨rfl, rfl, trivial⟩ rfl ⟨rfl, rfl, rfl, rfl, trivial⟩ [12, 0] (Fo := [_, _]) z149 rfl) (hW.atG_off z108 hga (ix := [1, 2]) (G := [_, _]) ⟨rfl, rfl, trivial⟩ (jx := [12, 0]) (Fo := [_, _]) z149) ((aT _ _ _).1.trans rfl) ((aT _ _ _).2.trans rfl) hnm hn hw1 (by simp) (fun x hx => by have := gV p.pure told y.pure 20 (by omega) hp0 x hx; omega) hn4)) ?_
     rintro v cs L ⟨rfl, rfl, rfl⟩
     have hlp : (onM p.pure [(k : Int)] (onM p.pure told (y.pure))).places.length = y.places.length := ((aT _ _ _).1.trans ((aT _ _ _).1.trans rfl))
     have hls : (onM p.pure [(k : Int)] (onM p.pure told (y.pure))).status.length = y.status.length := ((aT _ _ _).2.trans ((aT _ _ _).2.trans rfl))
     refine CaseB.mk (fun g => by cases g) (fun _ => ?_)
     obtain ⟨y9, hy9⟩ : ∃ y9 : StateH, y9 = ⟨(onM p.pure [(k : Int)] (onM p.pure told (y.pure))).places, (onM p.pure [(k : Int)] (onM p.pure told (y.pure))).status, y.sems, y.onces, (y.groups.set op.on.toNat ⟨x1, q1⟩), y.barriers, y.chans, y.said, y.fault, y.h0, y.h1, y.h2, y.h3, y.h4, y.h5, y.h6, y.h7⟩ := ⟨_, rfl⟩
     have hP : y9.pure = doM p.pure s.pure k := by
       rw [hD, tQ, hxa, hres]
       show _ = onM p.pure (told ++ [(k : Int)]) (setGroup s.pure op x1)
       rw [← hy, eN p.pure (told ++ [(k : Int)]) y.pure (setGroup y.pure op x1) rfl rfl, rC, hy9]
       simp only [StateH.pure, setGroup, List.map_set]
     have h64 : (doM p.pure s.pure k).said.length ≤ 64 := by
       rw [← hP, hy9]
       exact hsd
     have hok : StepOk p.pure s.pure k := hso.2 ⟨h64, hwn (by omega)⟩
     have hsm : y9.pure.small20 := by rw [hP]; exact hok.2.2.2.small
     have hv : aM y9 = aM y := by
       rw [hy9]; simp only [aM, hlp, hls, List.length_set]
     have hcl := fun w h => cL y9 w h hsm
     rw [hv] at hcl
     refine aB _ pL rfl rfl rfl rfl ⟨rfl, rfl⟩ (fun A w hW => hcl w ⟨sN hW (jN y9 (by rw [hy9]; exact fQ 0 1 6 7 3 8 9 10 rfl rfl rfl rfl rfl rfl rfl rfl) (by rw [hy9]; exact fun g hg => (lJ hg).elim (fun h => inO 11 rfl h) (fun h => by obtain rfl := List.mem_singleton.1 h; exact inF (List.mem_of_getElem? (i := 4) rfl)))), trivial⟩) ?_
     rintro v L ⟨y3, rfl, hy3, rfl⟩
     exact bC [0] ⟨y3, true, rfl, iZ hok, fun _ => hy3.trans hP, fun e => z110, rfl⟩ z151 rfl ⟨rfl, trivial⟩ (fun _ => rfl)
 refine CaseB.mk (fun g => ?_) (fun g6 => ?_)
 · have hk : op.kind = 6 := by simpa using g
   obtain ⟨x, hx, hxa, ok, ha, hi⟩ := r.group (.inr hk)
   have hil : op.on.toNat < s.groups.length := by have := (List.getElem?_eq_some_iff.1 hx).1; simpa [StateH.pure] using this
   have hxe : (s.groups[op.on.toNat]'hil).m = x := by have := hx; simp only [StateH.pure, List.getElem?_map, List.getElem?_eq_getElem hil, Option.map_some, Option.some.injEq] at this; exact this
   subst hxe
   have hjl : op.on.toNat < y.groups.length := by have := congrArg List.length hy4; simp at this; omega
   have hnq := fun u (h : aN (bH s.pure) u = []) => (iG hx (s.groups[op.on.toNat]).m).none h
   have hD : doM p.pure s.pure k = qF p.pure s.pure k op := by rw [hdm, dD, if_neg (by omega), if_neg (by omega), if_neg (by omega), if_neg (by omega), if_neg (by omega), if_pos hk]
   have hq : (k : Int) ∉ (s.groups[op.on.toNat]'hil).m.waits := by simpa using (aZ (g := fun t : Int => t)).1 (hnq _ r.ev)
   obtain ⟨x1, b1, hres⟩ : ∃ x1 b1, (s.groups[op.on.toNat]'hil).m.wait k = (x1, b1) := ⟨_, _, rfl⟩
   refine aG cJ aA rfl rfl rfl rfl rfl ⟨rfl, rfl⟩ (aL 12 rfl (.trans (.R_R (bO s)) (.ofR bG))) op.on.toNat hi.symm z48 (fun ad5 => ?_)
   refine aB _ cl74 rfl rfl rfl rfl ⟨rfl, rfl⟩ (fun A w hW => oP0 _ _ _ w ⟨hW.get 12 rfl (.trans (.R_R (bO s)) (.ofR (fG _ _ op.on.toNat hil))), trivial⟩ ok r.thr hq) ?_
   rw [hres]
   rintro v L ⟨q1, rfl, rfl⟩
   refine fJ 5 rfl (show 0 < y.groups.length by omega) fun gg hgg _ _ => ?_
   refine aE aA z107 z107 z107 200 [((3, 9), .v (y.h4.val y.groups.length)), ((4, 1), .v (.int .i64 op.on)), ((5, 0), .v (.int .i64 (x1).count)), ((5, 1), .v (q1.val (x1).waits.length))] [] [] z129 z145 trivial rfl ?_
   refine iA (ti := aU tab) aA rfl rfl rfl rfl rfl ⟨rfl, rfl⟩ hgg op.on.toNat hi.symm hjl ?_
   refine fK (ti := aU tab) cJ 5 aA rfl rfl rfl rfl rfl rfl rfl rfl hgg op.on.toNat 0 ⟨x1, q1⟩ rfl hjl rfl (dQ ⟨x1, q1⟩) (fun _ => rfl) z79 z105 ?_
   refine cB _ [2, 3] (G := [_, _]) iR0 rfl rfl rfl rfl ⟨rfl, rfl⟩ rfl rfl ⟨rfl, rfl, trivial⟩ ⟨rfl, rfl, rfl, rfl, trivial⟩ (fun A w ga hga hW hblk => (qH ga _ _ p y _ _ k (b1) (y.pure) w hblk (hW.atG [2, 3] (G := [_, _]) ⟨rfl, rfl, trivial⟩ rfl ⟨rfl, rfl, rfl, rfl, trivial⟩ [10] (Fo := [_]) z155 rfl) (hW.atG_off z108 hga (ix := [2, 3]) (G := [_, _]) ⟨rfl, rfl, trivial⟩ (jx := [10]) (Fo := [_]) z155) rfl rfl hnm hn hkn hpA hn4)) ?_
   rintro v cs L ⟨rfl, rfl, rfl⟩
   have hlp : (bY p.pure (y.pure) k (b1)).places.length = y.places.length := ((eQ _ _ _ _).1.trans rfl)
   have hls : (bY p.pure (y.pure) k (b1)).status.length = y.status.length := ((eQ _ _ _ _).2.trans rfl)
   refine CaseB.mk (fun g => by cases g) (fun _ => ?_)
   obtain ⟨y9, hy9⟩ : ∃ y9 : StateH, y9 = ⟨(bY p.pure (y.pure) k (b1)).places, (bY p.pure (y.pure) k (b1)).status, y.sems, y.onces, (y.groups.set op.on.toNat ⟨x1, q1⟩), y.barriers, y.chans, y.said, y.fault, y.h0, y.h1, y.h2, y.h3, y.h4, y.h5, y.h6, y.h7⟩ := ⟨_, rfl⟩
   have hP : y9.pure = doM p.pure s.pure k := by
     rw [hD, qF, hxa, hres]
     show _ = bY p.pure (setGroup s.pure op x1) k b1
     rw [← hy, pD p.pure y.pure (setGroup y.pure op x1) k b1 rfl rfl, hy9]
     simp only [StateH.pure, setGroup, List.map_set]
   have h64 : (doM p.pure s.pure k).said.length ≤ 64 := by
     rw [← hP, hy9]
     exact hsd
   have hok : StepOk p.pure s.pure k := hso.2 ⟨h64, hwn (by omega)⟩
   have hsm : y9.pure.small20 := by rw [hP]; exact hok.2.2.2.small
   have hv : aM y9 = aM y := by
     rw [hy9]; simp only [aM, hlp, hls, List.length_set]
   have hcl := fun w h => cL y9 w h hsm
   rw [hv] at hcl
   refine aB _ pL rfl rfl rfl rfl ⟨rfl, rfl⟩ (fun A w hW => hcl w ⟨sN hW (jN y9 (by rw [hy9]; exact fQ 0 1 4 5 2 6 7 8 rfl rfl rfl rfl rfl rfl rfl rfl) (by rw [hy9]; exact fun g hg => (lJ hg).elim (fun h => inO 9 rfl h) (fun h => by obtain rfl := List.mem_singleton.1 h; exact inF (List.mem_of_getElem? (i := 3) rfl)))), trivial⟩) ?_
   rintro v L ⟨y3, rfl, hy3, rfl⟩
   exact bC [0] ⟨y3, true, rfl, iZ hok, fun _ => hy3.trans hP, fun e => z110, rfl⟩ z151 rfl ⟨rfl, trivial⟩ (fun _ => rfl)
 refine CaseB.mk (fun g => ?_) (fun g7 => ?_)
 · have hk : op.kind = 7 := by simpa using g
   obtain ⟨x, hx, hxa, ok, hi⟩ := r.barrier hk
   have hil : op.on.toNat < s.barriers.length := by have := (List.getElem?_eq_some_iff.1 hx).1; simpa [StateH.pure] using this
   have hxe : (s.barriers[op.on.toNat]'hil).m = x := by have := hx; simp only [StateH.pure, List.getElem?_map, List.getElem?_eq_getElem hil, Option.map_some, Option.some.injEq] at this; exact this
   subst hxe
   have hjl : op.on.toNat < y.barriers.length := by have := congrArg List.length hy5; simp at this; omega
   have hnq := fun u (h : aN (bH s.pure) u = []) => (kZ hx (s.barriers[op.on.toNat]).m).none h
   have hD : doM p.pure s.pure k = gT p.pure s.pure k op := by rw [hdm, dD, if_neg (by omega), if_neg (by omega), if_neg (by omega), if_neg (by omega), if_neg (by omega), if_neg (by omega), if_pos hk]
   have hq : (k : Int) ∉ (s.barriers[op.on.toNat]'hil).m.waits := by simpa using (aZ (g := fun t : Int => t)).1 (hnq _ r.ev)
   refine aG cC aA rfl rfl rfl rfl rfl ⟨rfl, rfl⟩ (aL 12 rfl (.trans (.R_R (bK s)) (.ofR bG))) op.on.toNat hi.symm z48 (fun ad5 => ?_)
   rcases hres : (s.barriers[op.on.toNat]'hil).m.arrive k with _ | ⟨x1, told⟩
   · refine aB _ cl75 rfl rfl rfl rfl ⟨rfl, rfl⟩ (fun A w hW => cV0 _ _ _ w ⟨hW.get 12 rfl (.trans (.R_R (bK s)) (.ofR (eE _ _ op.on.toNat hil))), trivial⟩ ok r.thr hq) ?_
     rw [hres]
     rintro v L ⟨z1, rfl, rfl⟩
     refine CaseB.mk (fun _ => ?_) (fun g => by simp at g)
     have n : ¬ StepOk p.pure s.pure k := fun e => (hso.1 e).2 (by rw [rL, r.at_, hxa]; exact ⟨hk, hres⟩)
     refine aP (.joinO [90] (Gs := [_]) ⟨.inr ⟨Nat.le_of_ble_eq_true rfl, eA⟩, trivial⟩ rfl (G := aK StateH.zero) (.of_eq (by simp))) ?_
     exact bC [0] ⟨StateH.zero, false, rfl, tno n, fun e => z110, fun _ => rfl, rfl⟩ z151 rfl ⟨rfl, trivial⟩ (fun _ => rfl)
   have htin := vS ok hres
   have htl : told.length ≤ 100 := by omega
   have htold : ∀ u ∈ told, 0 ≤ u ∧ u < (y.places.length : Int) := fun u hu => by
     by_cases hne : u = k
     · rw [hne]; exact hkn
     have := ft.isIn fun h0 => (htin.1 u hu).elim (fun hu => (aZ (g := fun t : Int => t)).1 (hnq u h0) z99) (fun hu => hne hu)
     rw [lt] at this
     omega
   have hnw : ¬ rL p.pure s.pure k := fun e => by rw [rL, r.at_, hxa, hres] at e; cases e.2
   refine aB _ cl75 rfl rfl rfl rfl ⟨rfl, rfl⟩ (fun A w hW => cV0 _ _ _ w ⟨hW.get 12 rfl (.trans (.R_R (bK s)) (.ofR (eE _ _ op.on.toNat hil))), trivial⟩ ok r.thr hq) ?_
   rw [hres]
   rintro v L ⟨q1, z1, rfl, rfl⟩
   refine CaseB.mk (fun g => by simp at g) (fun _ => ?_)
   refine fJ 7 rfl (show 0 < y.barriers.length by omega) fun gg hgg _ _ => ?_
   refine aE aA z107 z107 z107 200 [((3, 10), .v (y.h5.val y.barriers.length)), ((4, 1), .v (.int .i64 op.on)), ((5, 0), .v (.int .i64 (x1).parties)), ((5, 1), .v (.int .i64 (x1).round)), ((5, 2), .v (q1.val (x1).waits.length))] [] [] z123 z140 trivial rfl ?_
   refine iA (ti := aU tab) aA rfl rfl rfl rfl rfl ⟨rfl, rfl⟩ hgg op.on.toNat hi.symm hjl ?_
   refine fK (ti := aU tab) cC 7 aA rfl rfl rfl rfl rfl rfl rfl rfl hgg op.on.toNat 0 ⟨x1, q1⟩ rfl hjl rfl (cY ⟨x1, q1⟩) (fun _ => rfl) z79 z105 ?_
   apply CaseB.mk <;> intro g
   · have e0 : told = [] := List.eq_nil_of_length_eq_zero z89
     subst e0
     refine cE aD 4 aA rfl rfl rfl rfl rfl ⟨rfl, rfl⟩ rfl (rfl).symm k rfl (by omega) (fun gs hgs => ?_)
     refine bP aD 4 aA rfl rfl rfl rfl rfl rfl rfl rfl hgs k 0 1 rfl (by omega) rfl [.int .i64 1] (fun _ => rfl) rfl ?_
     refine cB _ [4, 0] (G := [_, _]) sE rfl rfl rfl rfl ⟨rfl, rfl⟩ rfl rfl ⟨rfl, rfl, trivial⟩ ⟨rfl, rfl, rfl, rfl, trivial⟩ (fun A w ga hga hW hblk => (jM ga _ _ p y _ _ _ [] (bB (y.pure) k 1) w hblk (hW.atG [4, 0] (G := [_, _]) ⟨rfl, rfl, trivial⟩ rfl ⟨rfl, rfl, rfl, rfl, trivial⟩ [11, 3] (Fo := [_, _]) z149 rfl) (hW.atG_off z108 hga (ix := [4, 0]) (G := [_, _]) ⟨rfl, rfl, trivial⟩ (jx := [11, 3]) (Fo := [_, _]) z149) rfl ((List.length_set ..).trans rfl) hnm hn (fun x hx => by simp at hx) (by simp) hpA hn4)) ?_
     rintro v cs L ⟨rfl, rfl, rfl⟩
     have hlp : (onM p.pure [] (bB (y.pure) k 1)).places.length = y.places.length := ((aT _ _ _).1.trans rfl)
     have hls : (onM p.pure [] (bB (y.pure) k 1)).status.length = y.status.length := ((aT _ _ _).2.trans ((List.length_set ..).trans rfl))
     refine CaseB.mk (fun g => by cases g) (fun _ => ?_)
     obtain ⟨y9, hy9⟩ : ∃ y9 : StateH, y9 = ⟨(onM p.pure [] (bB (y.pure) k 1)).places, (onM p.pure [] (bB (y.pure) k 1)).status, y.sems, y.onces, y.groups, (y.barriers.set op.on.toNat ⟨x1, q1⟩), y.chans, y.said, y.fault, y.h0, y.h1, y.h2, y.h3, y.h4, y.h5, y.h6, y.h7⟩ := ⟨_, rfl⟩
     have hP : y9.pure = doM p.pure s.pure k := by
       rw [hD, gT, hxa, hres]
       show _ = bB (setBarrier s.pure op x1) k 1
       rw [← hy, hy9]
       simp only [StateH.pure, setBarrier, List.map_set, bB, onM, List.foldl_nil]
     have h64 : (doM p.pure s.pure k).said.length ≤ 64 := by
       rw [← hP, hy9]
       exact hsd
     have hok : StepOk p.pure s.pure k := hso.2 ⟨h64, hnw⟩
     have hsm : y9.pure.small20 := by rw [hP]; exact hok.2.2.2.small
     have hv : aM y9 = aM y := by
       rw [hy9]; simp only [aM, hlp, hls, List.length_set]
     have hcl := fun w h => cL y9 w h hsm
     rw [hv] at hcl
     refine aB _ pL rfl rfl rfl rfl ⟨rfl, rfl⟩ (fun A w hW => hcl w ⟨sN hW (jN y9 z71 z45), trivial⟩) ?_
     rintro v L ⟨y3, rfl, hy3, rfl⟩
     exact bC [0] ⟨y3, true, rfl, iZ hok, fun _ => hy3.trans hP, fun e => z110, rfl⟩ z151 rfl ⟨rfl, trivial⟩ (fun _ => rfl)
   have e0 : ¬ told = [] := fun e => by subst e; simp at g
   refine cB _ [3, 4] (G := [_, _]) sE rfl rfl rfl rfl ⟨rfl, rfl⟩ rfl rfl ⟨rfl, rfl, trivial⟩ ⟨rfl, rfl, rfl, rfl, trivial⟩ (fun A w ga hga hW hblk => (jM ga _ _ p y _ _ _ told (y.pure) w hblk (hW.atG [3, 4] (G := [_, _]) ⟨rfl, rfl, trivial⟩ rfl ⟨rfl, rfl, rfl, rfl, trivial⟩ [11, 2] (Fo := [_, _]) z149 rfl) (hW.atG_off z108 hga (ix := [3, 4]) (G := [_, _]) ⟨rfl, rfl, trivial⟩ (jx := [11, 2]) (Fo := [_, _]) z149) rfl rfl hnm hn htold htl hpA hn4)) ?_
   rintro v cs L ⟨rfl, rfl, rfl⟩
   have hlp : (onM p.pure told (y.pure)).places.length = y.places.length := ((aT _ _ _).1.trans rfl)
   have hls : (onM p.pure told (y.pure)).status.length = y.status.length := ((aT _ _ _).2.trans rfl)
   refine CaseB.mk (fun g => by cases g) (fun _ => ?_)
   obtain ⟨y9, hy9⟩ : ∃ y9 : StateH, y9 = ⟨(onM p.pure told (y.pure)).places, (onM p.pure told (y.pure)).status, y.sems, y.onces, y.groups, (y.barriers.set op.on.toNat ⟨x1, q1⟩), y.chans, y.said, y.fault, y.h0, y.h1, y.h2, y.h3, y.h4, y.h5, y.h6, y.h7⟩ := ⟨_, rfl⟩
   have hP : y9.pure = doM p.pure s.pure k := by
     rw [hD, gT, hxa, hres]
     show _ = if told = [] then bB (setBarrier s.pure op x1) k 1 else onM p.pure told (setBarrier s.pure op x1)
     rw [if_neg e0, ← hy, eN p.pure told y.pure (setBarrier y.pure op x1) rfl rfl, hy9]
     simp only [StateH.pure, setBarrier, List.map_set]
   have h64 : (doM p.pure s.pure k).said.length ≤ 64 := by
     rw [← hP, hy9]
     exact hsd
   have hok : StepOk p.pure s.pure k := hso.2 ⟨h64, hnw⟩
   have hsm : y9.pure.small20 := by rw [hP]; exact hok.2.2.2.small
   have hv : aM y9 = aM y := by
     rw [hy9]; simp only [aM, hlp, hls, List.length_set]
   have hcl := fun w h => cL y9 w h hsm
   rw [hv] at hcl
   refine aB _ pL rfl rfl rfl rfl ⟨rfl, rfl⟩ (fun A w hW => hcl w ⟨sN hW (jN y9 z71 z45), trivial⟩) ?_
   rintro v L ⟨y3, rfl, hy3, rfl⟩
   exact bC [0] ⟨y3, true, rfl, iZ hok, fun _ => hy3.trans hP, fun e => z110, rfl⟩ z151 rfl ⟨rfl, trivial⟩ (fun _ => rfl)
 refine CaseB.mk (fun g => ?_) (fun g8 => ?_)
 · have hk : op.kind = 8 := by simpa using g
   obtain ⟨x, hx, hxa, hv, hval, hi⟩ := r.chan (by omega)
   have hil : op.on.toNat < s.chans.length := by have := (List.getElem?_eq_some_iff.1 hx).1; simpa [StateH.pure] using this
   have hxe : (s.chans[op.on.toNat]'hil).m = x := by have := hx; simp only [StateH.pure, List.getElem?_map, List.getElem?_eq_getElem hil, Option.map_some, Option.some.injEq] at this; exact this
   subst hxe
   have hjl : op.on.toNat < y.chans.length := by have := congrArg List.length hy6; simp at this; omega
   have hnq := fun u (h : aN (bH s.pure) u = []) => (eW hx (s.chans[op.on.toNat]).m).none h
   have hD : doM p.pure s.pure k = lR p.pure s.pure k op := by rw [hdm, dD, if_neg (by omega), if_neg (by omega), if_neg (by omega), if_neg (by omega), if_neg (by omega), if_neg (by omega), if_neg (by omega), if_pos hk]
   have hsm := hv.small
   obtain ⟨x1, told, b1, o1, hres⟩ : ∃ x1 told b1 o1, (s.chans[op.on.toNat]'hil).m.send k op.arg = (x1, told, b1, o1) := ⟨_, _, _, _, rfl⟩
   have htin := zM hres
   have htl : told.length ≤ 100 := by omega
   have htold : ∀ u ∈ told, 0 ≤ u ∧ u < (y.places.length : Int) := fun u hu => by
     have := ft.isIn fun h0 => z82
     rw [lt] at this
     omega
   refine aE aA z107 z107 z107 200 [((1, 6), .v (s.h6.val s.chans.length)), ((4, 1), .v (.int .i64 op.on)), ((4, 2), .v (.int .i64 op.arg))] [12] [_] z136 z148 ⟨rfl, trivial⟩ rfl ?_
   refine bM (ti := aU tab) cN aA rfl rfl rfl rfl rfl ⟨rfl, rfl⟩ (aL 0 rfl (.trans (.R_R (aQ s)) (.ofR bG))) op.on.toNat hi.symm z48 (fun ad5 => ?_)
   refine BothW.mk ?_ ?_
   all_goals
     refine bL _ cl76 rfl rfl rfl rfl ⟨rfl, rfl⟩ (fun A w hW => oK0 _ _ _ _ _ _ w ⟨hW.get 12 rfl (.trans (.R_R (aQ s)) (.ofR (mU _ _ op.on.toNat hil))), hW.get 12 rfl (.trans (.R_R (aQ s)) (.ofR (iC _ _ op.on.toNat hil))), hW.get 12 rfl (.trans (.R_R (aQ s)) (.ofR (iX _ _ op.on.toNat hil))), trivial⟩ hsm) ?_
     rw [hres]
     rintro v L ⟨q0, q1, q2, z1, rfl, rfl⟩
     apply CaseB.mk <;> intro g
     · have e0 : o1 = false := by simpa using g
       have hF : doM p.pure s.pure k = fZ s.pure 3 := by
         rw [hD, lR, hxa, hres]
         simp [e0]
       have hok : StepOk p.pure s.pure k := hso.2 ⟨by rw [hF]; exact ft.lsaid, hwn (by omega)⟩
       refine eC _ [] (G := []) lV0 rfl rfl rfl rfl ⟨rfl, rfl⟩ rfl rfl trivial trivial (fun A w ga hga hW hblk => wJ 3 ga s w hblk (hW.atG [] (G := []) trivial rfl trivial [16] (Fo := [_]) z139 rfl) (hW.atG_off z108 hga (ix := []) (G := []) trivial (jx := [16]) (Fo := [_]) z139) hs) ?_
       rintro v cs L ⟨y3, rfl, rfl, hy3, rfl⟩
       exact bC [0] ⟨y3, true, rfl, iZ hok, fun _ => hy3.trans hF.symm, fun e => z110, rfl⟩ z151 rfl ⟨rfl, trivial⟩ (fun _ => rfl)
     have e0 : o1 = true := by simpa using g
     refine fJ 10 rfl (show 0 < y.chans.length by omega) fun gg hgg _ _ => ?_
     refine aE aA z107 z107 z107 200 [((3, 11), .v (y.h6.val y.chans.length)), ((4, 1), .v (.int .i64 op.on)), ((5, 0), .v (.int .i64 (x1).room)), ((5, 1), .v (q0.val (x1).items.length)), ((5, 2), .v (q1.val (x1).senders.length)), ((5, 3), .v (q2.val (x1).getters.length)), ((5, 4), .v (.bool (x1).closed))] [] [] z118 z134 trivial rfl ?_
     refine iA (ti := aU tab) aA rfl rfl rfl rfl rfl ⟨rfl, rfl⟩ hgg op.on.toNat hi.symm hjl ?_
     refine fK (ti := aU tab) cN 10 aA rfl rfl rfl rfl rfl rfl rfl rfl hgg op.on.toNat 0 ⟨x1, q0, q1, q2⟩ rfl hjl rfl (fD ⟨x1, q0, q1, q2⟩) (fun _ => rfl) z79 z105 ?_
     refine LoopW.mk ⟨{ q : Nat × Sl × List Int × Bool × List Int × List Int // q.1 ≤ told.length ∧ q.2.2.1 = (if q.1 = 0 then y.said else kP y.said op.arg) ∧ q.2.2.2.1 = (decide (0 < q.1) && decide (64 ≤ y.said.length)) ∧ q.2.2.2.2.1 = (onM p.pure (told.take q.1) y.pure).places ∧ q.2.2.2.2.2 = (onM p.pure (told.take q.1) y.pure).status },
       fun q => .mk [(2, .v (.int .i64 (k : Int))), (3, .p 0 0), (4, .p 1 0), (6, .p 2 0), (8, .p 3 0), (9, .p 4 0), (34, .v (.bool b1)), (371, .v (z1.val told.length)), (372, .v (.int .i64 (told.length : Int))), (373, .v (.int .i64 (q.1.1 : Int)))] 6 0 [(0, 26, 5), (1, 35, 9), (2, 35, 9), (3, 89, 15), (4, 65, 3)] [((3, 0), .v (p.h0.val p.sems.length)), ((3, 1), .v (p.h1.val p.groups.length)), ((3, 2), .v (p.h2.val p.barriers.length)), ((3, 3), .v (p.h3.val p.rooms.length)), ((3, 4), .v (p.h4.val p.threads.length)), ((3, 5), .v (y.h0.val y.places.length)), ((3, 6), .v (y.h1.val y.status.length)), ((3, 7), .v (y.h2.val y.sems.length)), ((3, 8), .v (y.h3.val y.onces.length)), ((3, 9), .v (y.h4.val y.groups.length)), ((3, 10), .v (y.h5.val y.barriers.length)), ((3, 11), .v (y.h6.val y.chans.length)), ((3, 12), .v (q.1.2.1.val q.1.2.2.1.length)), ((3, 13), .v (.int .i64 y.fault)), ((3, 14), .v (.bool q.1.2.2.2.1)), ((4, 0), .v (.int .i64 op.kind)), ((4, 1), .v (.int .i64 op.on)), ((4, 2), .v (.int .i64 op.arg))] [own y.h0 3 aJ 1 q.1.2.2.2.2.1, own y.h1 3 aJ 1 q.1.2.2.2.2.2, own q.1.2.1 3 aJ 1 q.1.2.2.1, own z1 3 aJ 1 told, own y.h2 95 gF 3 y.sems, own y.h3 102 eB 4 y.onces, own y.h4 108 dQ 2 y.groups, own y.h5 114 cY 3 y.barriers, own y.h6 119 fD 5 (y.chans.set op.on.toNat ⟨x1, q0, q1, q2⟩), fO (gP y), slo p.h4 kI 1 p.threads, own q0 3 aJ 1 x1.items, own q1 187 jE 2 x1.senders, own q2 3 aJ 1 x1.getters],
       fun q => told.length - q.1.1, ⟨(0, y.h7, y.said, false, y.places, y.status), Nat.zero_le _, rfl, by simp, rfl, rfl⟩, ?_, ?_⟩
     · exact aC [5, 6, 11, 4, 7, 8, 9, 10, 0, 12, 13, 1, 2, 3] zw2 zw0 zw2 zw5 zw4 rfl rfl
     rintro ⟨⟨j, z, sd, fl, pl, st2⟩, hj, hsd2, hfl2, hpl2, hst3⟩
     simp only at hj hsd2 hfl2 hpl2 hst3
     simp only
     apply CaseB.mk <;> intro g
     · have hlt : j < told.length := by simpa using g
       obtain rfl : j = 0 := by have := htin.2.1; omega
       obtain rfl : sd = y.said := by simpa using hsd2
       obtain rfl : fl = false := by simpa using hfl2
       obtain rfl : pl = y.pure.places := by simpa [onM] using hpl2
       obtain rfl : st2 = y.pure.status := by simpa [onM] using hst3
       obtain ⟨t0, rfl⟩ : ∃ t0, told = [t0] := List.length_eq_one_iff.1 (by have := htin.2.1; omega)
       refine aG aD aA rfl rfl rfl rfl rfl ⟨rfl, rfl⟩ (aL 3 rfl (Rd.own (o := false) (o' := false))) 0 rfl z48 (fun ad7 => ?_)
       refine cB _ [2] (G := [_]) oB0 rfl rfl rfl rfl ⟨rfl, rfl⟩ rfl rfl ⟨rfl, trivial⟩ ⟨rfl, rfl, trivial⟩ (fun A w ga hga hW hblk => (kE0 ga _ _ p y z y.said false op.arg w hblk (hW.atG [2] (G := [_]) ⟨rfl, trivial⟩ rfl ⟨rfl, rfl, trivial⟩ [] (Fo := []) trivial rfl) (hW.atG_off z108 hga (ix := [2]) (G := [_]) ⟨rfl, trivial⟩ (jx := []) (Fo := []) trivial) (by omega))) ?_
       rintro v cs L ⟨rfl, z9, rfl, rfl⟩
       refine AllSl.mk fun zt => ?_
       refine cB _ [2, 3] (G := [_, _]) sE rfl rfl rfl rfl ⟨rfl, rfl⟩ rfl rfl ⟨rfl, rfl, trivial⟩ ⟨rfl, rfl, rfl, rfl, trivial⟩ (fun A w ga hga hW hblk => (jM ga _ _ p y _ _ zt [t0] y.pure w hblk (hW.atG [2, 3] (G := [_, _]) ⟨rfl, rfl, trivial⟩ rfl ⟨rfl, rfl, rfl, rfl, trivial⟩ [11, 0] (Fo := [_, _]) z149 rfl) (hW.atG_off z108 hga (ix := [2, 3]) (G := [_, _]) ⟨rfl, rfl, trivial⟩ (jx := [11, 0]) (Fo := [_, _]) z149) rfl rfl hnm hn (fun x hx => by simp at hx; rw [hx]; exact htold _ (by simp)) (by simp) hpA hn4)) ?_
       rintro v cs L ⟨rfl, rfl, rfl⟩
       have ht1 : [t0].take 1 = [t0] := rfl
       refine ⟨⟨(1, z9, kP y.said op.arg, (false || decide (64 ≤ y.said.length)), (onM p.pure [t0] y.pure).places, (onM p.pure [t0] y.pure).status), hlt, by simp, by simp, by simp only [ht1], by simp only [ht1]⟩, ?_, by simp only; omega⟩
       exact aC [0, 1, 3, 4, 5, 6, 7, 8, 9, 10, 11, 12, 13, 14] zw2 zw0 zw2 zw5 zw4 rfl rfl
     have hge : told.length ≤ j := by simpa using g
     have hjt : j = told.length := by omega
     rw [List.take_of_length_le hge] at hpl2 hst3
     subst hpl2
     subst hst3
     refine cB _ [0, 1] (G := [_, _]) iR0 rfl rfl rfl rfl ⟨rfl, rfl⟩ rfl rfl ⟨rfl, rfl, trivial⟩ ⟨rfl, rfl, rfl, rfl, trivial⟩ (fun A w ga hga hW hblk => (qH ga _ _ p y _ _ k (b1) (onM p.pure told y.pure) w hblk (hW.atG [0, 1] (G := [_, _]) ⟨rfl, rfl, trivial⟩ rfl ⟨rfl, rfl, rfl, rfl, trivial⟩ [10] (Fo := [_]) z155 rfl) (hW.atG_off z108 hga (ix := [0, 1]) (G := [_, _]) ⟨rfl, rfl, trivial⟩ (jx := [10]) (Fo := [_]) z155) (aT _ _ _).1 (aT _ _ _).2 hnm hn hkn (fun x hx => by have := gV p.pure told y.pure 20 (by omega) hp0 x hx; omega) hn4)) ?_
     rintro v cs L ⟨rfl, rfl, rfl⟩
     have hlp : (bY p.pure (onM p.pure told y.pure) k (b1)).places.length = y.places.length := ((eQ _ _ _ _).1.trans (aT _ _ _).1)
     have hls : (bY p.pure (onM p.pure told y.pure) k (b1)).status.length = y.status.length := ((eQ _ _ _ _).2.trans (aT _ _ _).2)
     obtain ⟨S1, hS1⟩ : ∃ S1 : State, S1 = if told = [] then setChan y.pure op x1 else jX (setChan y.pure op x1) op.arg := ⟨_, rfl⟩
     have s1 : S1.places = y.pure.places := by rw [hS1]; split <;> rfl
     have s2 : S1.status = y.pure.status := by rw [hS1]; split <;> rfl
     have hD2 : doM p.pure s.pure k = bY p.pure (onM p.pure told S1) k b1 := by
       rw [hD, lR, hxa, hres, ← hy]
       show (if o1 = true then (if b1 = true then onM p.pure (told ++ [(k : Int)]) (if told = [] then setChan y.pure op x1 else jX (setChan y.pure op x1) op.arg) else bB (setChan y.pure op x1) k 1) else fZ y.pure 3) = _
       rw [if_pos e0, ← hS1, bY]
       cases hb1 : b1
       · have := htin.2.2 hb1
         subst this
         rw [hS1]
         simp [onM]
       · simp only [if_true]
         exact rC _ _ _ _
     have hpu : bY p.pure (onM p.pure told S1) k b1 = { S1 with places := (bY p.pure (onM p.pure told y.pure) k b1).places, status := (bY p.pure (onM p.pure told y.pure) k b1).status } := by
       have h1 := eN p.pure told y.pure S1 s1 s2
       rw [pD p.pure (onM p.pure told y.pure) (onM p.pure told S1) k b1 (by rw [h1]) (by rw [h1]), h1]
     apply CaseB.mk <;> intro g
     · have g2 : fl = true := g
       rw [hfl2] at g2
       have hf : 0 < told.length ∧ 64 ≤ y.said.length := by simpa [hjt] using g2
       have hne : ¬ told = [] := fun e => by rw [e] at hf; simp at hf
       have n : ¬ StepOk p.pure s.pure k := fun e => by
         have h := (hso.1 e).1
         rw [hD2, hpu, hS1, if_neg hne] at h
         have h' : (y.said ++ [op.arg]).length ≤ 64 := h
         simp at h'
         omega
       refine aP (.joinO [90] (Gs := [_]) ⟨.inr ⟨Nat.le_of_ble_eq_true rfl, eA⟩, trivial⟩ rfl (G := aK StateH.zero) (.of_eq (by simp))) ?_
       exact bC [0] ⟨StateH.zero, false, rfl, tno n, fun e => z110, fun _ => rfl, rfl⟩ z151 rfl ⟨rfl, trivial⟩ (fun _ => rfl)
     have g2 : fl = false := g
     rw [hfl2] at g2
     have hS : S1 = { setChan y.pure op x1 with said := sd } := by
       rw [hS1]
       by_cases e : told = []
       · have j0 : j = 0 := by rw [hjt, e]; rfl
         rw [if_pos e, hsd2, if_pos j0]; rfl
       · have j1 : 0 < j := by rw [hjt]; exact List.length_pos_iff.2 e
         have hf : ¬ 64 ≤ y.said.length := by simpa [j1] using g2
         rw [if_neg e, hsd2, if_neg (by omega), kP, if_neg hf]; rfl
     have hsd3 : sd.length ≤ 64 := by
       rw [hsd2]
       split
       · exact hsd
       · have j1 : 0 < j := by omega
         have hf : ¬ 64 ≤ y.said.length := by simpa [j1] using g2
         rw [kP, if_neg hf]; simp; omega
     obtain ⟨y9, hy9⟩ : ∃ y9 : StateH, y9 = ⟨(bY p.pure (onM p.pure told y.pure) k (b1)).places, (bY p.pure (onM p.pure told y.pure) k (b1)).status, y.sems, y.onces, y.groups, y.barriers, (y.chans.set op.on.toNat ⟨x1, q0, q1, q2⟩), sd, y.fault, y.h0, y.h1, y.h2, y.h3, y.h4, y.h5, y.h6, z⟩ := ⟨_, rfl⟩
     have hP : y9.pure = doM p.pure s.pure k := by
       rw [hD2, hpu, hS, hy9]
       simp only [StateH.pure, setChan, List.map_set]
     have h64 : (doM p.pure s.pure k).said.length ≤ 64 := by
       rw [← hP, hy9]
       exact hsd3
     have hok : StepOk p.pure s.pure k := hso.2 ⟨h64, hwn (by omega)⟩
     have hsm : y9.pure.small20 := by rw [hP]; exact hok.2.2.2.small
     have hv : aM y9 = .agg #[y.h0.val y.places.length, y.h1.val y.status.length, y.h2.val y.sems.length, y.h3.val y.onces.length, y.h4.val y.groups.length, y.h5.val y.barriers.length, y.h6.val y.chans.length, (z).val (sd).length, .int .i64 y.fault] := by
       rw [hy9]; simp only [aM, hlp, hls, List.length_set]
     have hcl := fun w h => cL y9 w h hsm
     rw [hv] at hcl
     refine aB _ pL rfl rfl rfl rfl ⟨rfl, rfl⟩ (fun A w hW => hcl w ⟨sN hW (jN y9 (by rw [hy9]; exact fQ 0 1 4 5 6 7 8 2 rfl rfl rfl rfl rfl rfl rfl rfl) (by rw [hy9]; exact fun g hg => (iH hg).elim (fun h => inO 9 rfl h) (fun h => by simp only [gJ, List.mem_cons, List.not_mem_nil, or_false] at h; rcases h with rfl | rfl | rfl <;> first | exact inF (List.mem_of_getElem? (i := 11) rfl) | exact inF (List.mem_of_getElem? (i := 12) rfl) | exact inF (List.mem_of_getElem? (i := 13) rfl)))), trivial⟩) ?_
     rintro v L ⟨y3, rfl, hy3, rfl⟩
     exact bC [0] ⟨y3, true, rfl, iZ hok, fun _ => hy3.trans hP, fun e => z110, rfl⟩ z151 rfl ⟨rfl, trivial⟩ (fun _ => rfl)
 refine CaseB.mk (fun g => ?_) (fun g9 => ?_)
 · have hk : op.kind = 9 := by simpa using g
   obtain ⟨x, hx, hxa, hv, hval, hi⟩ := r.chan (by omega)
   have hil : op.on.toNat < s.chans.length := by have := (List.getElem?_eq_some_iff.1 hx).1; simpa [StateH.pure] using this
   have hxe : (s.chans[op.on.toNat]'hil).m = x := by have := hx; simp only [StateH.pure, List.getElem?_map, List.getElem?_eq_getElem hil, Option.map_some, Option.some.injEq] at this; exact this
   subst hxe
   have hjl : op.on.toNat < y.chans.length := by have := congrArg List.length hy6; simp at this; omega
   have hnq := fun u (h : aN (bH s.pure) u = []) => (eW hx (s.chans[op.on.toNat]).m).none h
   have hD : doM p.pure s.pure k = rX p.pure s.pure k op := by rw [hdm, dD, if_neg (by omega), if_neg (by omega), if_neg (by omega), if_neg (by omega), if_neg (by omega), if_neg (by omega), if_neg (by omega), if_neg (by omega), if_pos hk]
   have hsm := hv.small
   obtain ⟨x1, v1, c1, told, o1, hres⟩ : ∃ x1 v1 c1 told o1, (s.chans[op.on.toNat]'hil).m.get k = (x1, v1, c1, told, o1) := ⟨_, _, _, _, _, rfl⟩
   have htin := cZ0 hres
   have htl : told.length ≤ 100 := by omega
   have htold : ∀ u ∈ told, 0 ≤ u ∧ u < (y.places.length : Int) := fun u hu => by
     have := ft.isIn fun h0 => z82
     rw [lt] at this
     omega
   refine aG cN aA rfl rfl rfl rfl rfl ⟨rfl, rfl⟩ (aL 12 rfl (.trans (.R_R (aQ s)) (.ofR bG))) op.on.toNat hi.symm z48 (fun ad5 => ?_)
   refine aB _ cl77 rfl rfl rfl rfl ⟨rfl, rfl⟩ (fun A w hW => get_c _ _ _ _ _ w ⟨hW.get 12 rfl (.trans (.R_R (aQ s)) (.ofR (mU _ _ op.on.toNat hil))), hW.get 12 rfl (.trans (.R_R (aQ s)) (.ofR (iC _ _ op.on.toNat hil))), hW.get 12 rfl (.trans (.R_R (aQ s)) (.ofR (iX _ _ op.on.toNat hil))), trivial⟩ hsm) ?_
   rw [hres]
   rintro v L ⟨q0, q1, q2, z1, rfl, rfl⟩
   refine fJ 10 rfl (show 0 < y.chans.length by omega) fun gg hgg _ _ => ?_
   refine aE aA z107 z107 z107 200 [((3, 11), .v (y.h6.val y.chans.length)), ((4, 1), .v (.int .i64 op.on)), ((5, 0), .v (.int .i64 (x1).room)), ((5, 1), .v (q0.val (x1).items.length)), ((5, 2), .v (q1.val (x1).senders.length)), ((5, 3), .v (q2.val (x1).getters.length)), ((5, 4), .v (.bool (x1).closed))] [] [] z118 z134 trivial rfl ?_
   refine iA (ti := aU tab) aA rfl rfl rfl rfl rfl ⟨rfl, rfl⟩ hgg op.on.toNat hi.symm hjl ?_
   refine fK (ti := aU tab) cN 10 aA rfl rfl rfl rfl rfl rfl rfl rfl hgg op.on.toNat 0 ⟨x1, q0, q1, q2⟩ rfl hjl rfl (fD ⟨x1, q0, q1, q2⟩) (fun _ => rfl) z79 z105 ?_
   refine cB _ [5, 6] (G := [_, _]) sE rfl rfl rfl rfl ⟨rfl, rfl⟩ rfl rfl ⟨rfl, rfl, trivial⟩ ⟨rfl, rfl, rfl, rfl, trivial⟩ (fun A w ga hga hW hblk => (jM ga _ _ p y _ _ _ told (y.pure) w hblk (hW.atG [5, 6] (G := [_, _]) ⟨rfl, rfl, trivial⟩ rfl ⟨rfl, rfl, rfl, rfl, trivial⟩ [13, 4] (Fo := [_, _]) z149 rfl) (hW.atG_off z108 hga (ix := [5, 6]) (G := [_, _]) ⟨rfl, rfl, trivial⟩ (jx := [13, 4]) (Fo := [_, _]) z149) rfl rfl hnm hn htold htl hpA hn4)) ?_
   rintro v cs L ⟨rfl, rfl, rfl⟩
   obtain ⟨S1, hS1⟩ : ∃ S1 : State, S1 = if c1 = 1 then jX (setChan y.pure op x1) v1 else setChan y.pure op x1 := ⟨_, rfl⟩
   have s1 : S1.places = y.pure.places := by rw [hS1]; split <;> rfl
   have s2 : S1.status = y.pure.status := by rw [hS1]; split <;> rfl
   have hD2 : doM p.pure s.pure k = bY p.pure (onM p.pure told S1) k (c1 != 0) := by
     rw [hD, rX, hxa, hres, ← hy]
     show (if c1 = 0 then bB (setChan y.pure op x1) k 1 else onM p.pure (told ++ [(k : Int)]) (if c1 = 1 then jX (setChan y.pure op x1) v1 else setChan y.pure op x1)) = _
     rw [← hS1, bY]
     by_cases h0 : c1 = 0
     · have := htin.2.2.2 h0
       subst this
       subst h0
       rw [hS1]
       simp [onM]
     · rw [if_neg h0, if_pos (by simpa using h0)]
       exact rC _ _ _ _
   have hpu : bY p.pure (onM p.pure told S1) k (c1 != 0) = { S1 with places := (bY p.pure (onM p.pure told y.pure) k (c1 != 0)).places, status := (bY p.pure (onM p.pure told y.pure) k (c1 != 0)).status } := by
     have h1 := eN p.pure told y.pure S1 s1 s2
     rw [pD p.pure (onM p.pure told y.pure) (onM p.pure told S1) k (c1 != 0) (by rw [h1]) (by rw [h1]), h1]
   apply CaseB.mk <;> intro g
   · have e1 : c1 = 1 := by simpa using g
     refine cB _ [11] (G := [_]) oB0 rfl rfl rfl rfl ⟨rfl, rfl⟩ rfl rfl ⟨rfl, trivial⟩ ⟨rfl, rfl, trivial⟩ (fun A w ga hga hW hblk => (kE0 ga _ _ p y y.h7 y.said false v1 w hblk (hW.atG [11] (G := [_]) ⟨rfl, trivial⟩ rfl ⟨rfl, rfl, trivial⟩ [] (Fo := []) trivial rfl) (hW.atG_off z108 hga (ix := [11]) (G := [_]) ⟨rfl, trivial⟩ (jx := []) (Fo := []) trivial) (by omega))) ?_
     rintro v cs L ⟨rfl, z9, rfl, rfl⟩
     refine cB _ [1, 2] (G := [_, _]) iR0 rfl rfl rfl rfl ⟨rfl, rfl⟩ rfl rfl ⟨rfl, rfl, trivial⟩ ⟨rfl, rfl, rfl, rfl, trivial⟩ (fun A w ga hga hW hblk => (qH ga _ _ p y _ _ k (c1 != 0) (onM p.pure told (y.pure)) w hblk (hW.atG [1, 2] (G := [_, _]) ⟨rfl, rfl, trivial⟩ rfl ⟨rfl, rfl, rfl, rfl, trivial⟩ [13] (Fo := [_]) z155 rfl) (hW.atG_off z108 hga (ix := [1, 2]) (G := [_, _]) ⟨rfl, rfl, trivial⟩ (jx := [13]) (Fo := [_]) z155) ((aT _ _ _).1.trans rfl) ((aT _ _ _).2.trans rfl) hnm hn hkn (fun x hx => by have := gV p.pure told y.pure 20 (by omega) hp0 x hx; omega) hn4)) ?_
     rintro v cs L ⟨rfl, rfl, rfl⟩
     have hlp : (bY p.pure (onM p.pure told (y.pure)) k (c1 != 0)).places.length = y.places.length := ((eQ _ _ _ _).1.trans ((aT _ _ _).1.trans rfl))
     have hls : (bY p.pure (onM p.pure told (y.pure)) k (c1 != 0)).status.length = y.status.length := ((eQ _ _ _ _).2.trans ((aT _ _ _).2.trans rfl))
     apply CaseB.mk <;> intro g
     · have hf : 64 ≤ y.said.length := by simpa using g
       have n : ¬ StepOk p.pure s.pure k := fun e => by
         have h := (hso.1 e).1
         rw [hD2, hpu, hS1, if_pos e1] at h
         have h' : (y.said ++ [v1]).length ≤ 64 := h
         simp at h'
         omega
       refine aP (.joinO [90] (Gs := [_]) ⟨.inr ⟨Nat.le_of_ble_eq_true rfl, eA⟩, trivial⟩ rfl (G := aK StateH.zero) (.of_eq (by simp))) ?_
       exact bC [0] ⟨StateH.zero, false, rfl, tno n, fun e => z110, fun _ => rfl, rfl⟩ z151 rfl ⟨rfl, trivial⟩ (fun _ => rfl)
     have hf : ¬ 64 ≤ y.said.length := by simpa using g
     obtain ⟨y9, hy9⟩ : ∃ y9 : StateH, y9 = ⟨(bY p.pure (onM p.pure told (y.pure)) k (c1 != 0)).places, (bY p.pure (onM p.pure told (y.pure)) k (c1 != 0)).status, y.sems, y.onces, y.groups, y.barriers, (y.chans.set op.on.toNat ⟨x1, q0, q1, q2⟩), (kP y.said v1), y.fault, y.h0, y.h1, y.h2, y.h3, y.h4, y.h5, y.h6, z9⟩ := ⟨_, rfl⟩
     have hP : y9.pure = doM p.pure s.pure k := by
       rw [hD2, hpu, hS1, if_pos e1, hy9]
       simp only [StateH.pure, setChan, jX, List.map_set, kP, if_neg hf]
     have h64 : (doM p.pure s.pure k).said.length ≤ 64 := by
       rw [← hP, hy9]
       show (kP y.said v1).length ≤ 64
       rw [kP, if_neg hf]
       simp; omega
     have hok : StepOk p.pure s.pure k := hso.2 ⟨h64, hwn (by omega)⟩
     have hsm : y9.pure.small20 := by rw [hP]; exact hok.2.2.2.small
     have hv : aM y9 = .agg #[y.h0.val y.places.length, y.h1.val y.status.length, y.h2.val y.sems.length, y.h3.val y.onces.length, y.h4.val y.groups.length, y.h5.val y.barriers.length, y.h6.val y.chans.length, (z9).val ((kP y.said v1)).length, .int .i64 y.fault] := by
       rw [hy9]; simp only [aM, hlp, hls, List.length_set]
     have hcl := fun w h => cL y9 w h hsm
     rw [hv] at hcl
     refine aB _ pL rfl rfl rfl rfl ⟨rfl, rfl⟩ (fun A w hW => hcl w ⟨sN hW (jN y9 (by rw [hy9]; exact fQ 0 1 8 9 10 11 3 2 rfl rfl rfl rfl rfl rfl rfl rfl) (by rw [hy9]; exact fun g hg => (iH hg).elim (fun h => inO 12 rfl h) (fun h => by simp only [gJ, List.mem_cons, List.not_mem_nil, or_false] at h; rcases h with rfl | rfl | rfl <;> first | exact inF (List.mem_of_getElem? (i := 4) rfl) | exact inF (List.mem_of_getElem? (i := 5) rfl) | exact inF (List.mem_of_getElem? (i := 6) rfl)))), trivial⟩) ?_
     rintro v L ⟨y3, rfl, hy3, rfl⟩
     exact bC [0] ⟨y3, true, rfl, iZ hok, fun _ => hy3.trans hP, fun e => z110, rfl⟩ z151 rfl ⟨rfl, trivial⟩ (fun _ => rfl)
   have e1 : ¬ c1 = 1 := by simpa using g
   refine cB _ [0, 1] (G := [_, _]) iR0 rfl rfl rfl rfl ⟨rfl, rfl⟩ rfl rfl ⟨rfl, rfl, trivial⟩ ⟨rfl, rfl, rfl, rfl, trivial⟩ (fun A w ga hga hW hblk => (qH ga _ _ p y _ _ k (c1 != 0) (onM p.pure told (y.pure)) w hblk (hW.atG [0, 1] (G := [_, _]) ⟨rfl, rfl, trivial⟩ rfl ⟨rfl, rfl, rfl, rfl, trivial⟩ [13] (Fo := [_]) z155 rfl) (hW.atG_off z108 hga (ix := [0, 1]) (G := [_, _]) ⟨rfl, rfl, trivial⟩ (jx := [13]) (Fo := [_]) z155) ((aT _ _ _).1.trans rfl) ((aT _ _ _).2.trans rfl) hnm hn hkn (fun x hx => by have := gV p.pure told y.pure 20 (by omega) hp0 x hx; omega) hn4)) ?_
   rintro v cs L ⟨rfl, rfl, rfl⟩
   have hlp : (bY p.pure (onM p.pure told (y.pure)) k (c1 != 0)).places.length = y.places.length := ((eQ _ _ _ _).1.trans ((aT _ _ _).1.trans rfl))
   have hls : (bY p.pure (onM p.pure told (y.pure)) k (c1 != 0)).status.length = y.status.length := ((eQ _ _ _ _).2.trans ((aT _ _ _).2.trans rfl))
   refine CaseB.mk (fun g => by cases g) (fun _ => ?_)
   obtain ⟨y9, hy9⟩ : ∃ y9 : StateH, y9 = ⟨(bY p.pure (onM p.pure told (y.pure)) k (c1 != 0)).places, (bY p.pure (onM p.pure told (y.pure)) k (c1 != 0)).status, y.sems, y.onces, y.groups, y.barriers, (y.chans.set op.on.toNat ⟨x1, q0, q1, q2⟩), y.said, y.fault, y.h0, y.h1, y.h2, y.h3, y.h4, y.h5, y.h6, y.h7⟩ := ⟨_, rfl⟩
   have hP : y9.pure = doM p.pure s.pure k := by
     rw [hD2, hpu, hS1, if_neg e1, hy9]
     simp only [StateH.pure, setChan, List.map_set]
   have h64 : (doM p.pure s.pure k).said.length ≤ 64 := by
     rw [← hP, hy9]
     exact hsd
   have hok : StepOk p.pure s.pure k := hso.2 ⟨h64, hwn (by omega)⟩
   have hsm : y9.pure.small20 := by rw [hP]; exact hok.2.2.2.small
   have hv : aM y9 = aM y := by
     rw [hy9]; simp only [aM, hlp, hls, List.length_set]
   have hcl := fun w h => cL y9 w h hsm
   rw [hv] at hcl
   refine aB _ pL rfl rfl rfl rfl ⟨rfl, rfl⟩ (fun A w hW => hcl w ⟨sN hW (jN y9 z66 (by rw [hy9]; exact fun g hg => (iH hg).elim (fun h => inO 12 rfl h) (fun h => by simp only [gJ, List.mem_cons, List.not_mem_nil, or_false] at h; rcases h with rfl | rfl | rfl <;> first | exact inF (List.mem_of_getElem? (i := 3) rfl) | exact inF (List.mem_of_getElem? (i := 4) rfl) | exact inF (List.mem_of_getElem? (i := 5) rfl)))), trivial⟩) ?_
   rintro v L ⟨y3, rfl, hy3, rfl⟩
   exact bC [0] ⟨y3, true, rfl, iZ hok, fun _ => hy3.trans hP, fun e => z110, rfl⟩ z151 rfl ⟨rfl, trivial⟩ (fun _ => rfl)
 refine CaseB.mk (fun g => ?_) (fun g10 => ?_)
 rotate_left
 · exfalso
   have := r.ok.1
   have := r.ok.2.1
   simp at g1 g2 g3 g4 g5 g6 g7 g8 g9 g10
   omega
 have hk : op.kind = 10 := by simpa using g
 obtain ⟨x, hx, hxa, hv, hval, hi⟩ := r.chan (by omega)
 have hil : op.on.toNat < s.chans.length := by have := (List.getElem?_eq_some_iff.1 hx).1; simpa [StateH.pure] using this
 have hxe : (s.chans[op.on.toNat]'hil).m = x := by have := hx; simp only [StateH.pure, List.getElem?_map, List.getElem?_eq_getElem hil, Option.map_some, Option.some.injEq] at this; exact this
 subst hxe
 have hjl : op.on.toNat < y.chans.length := by have := congrArg List.length hy6; simp at this; omega
 have hnq := fun u (h : aN (bH s.pure) u = []) => (eW hx (s.chans[op.on.toNat]).m).none h
 have hD : doM p.pure s.pure k = mC p.pure s.pure k op := by rw [hdm, dD, if_neg (by omega), if_neg (by omega), if_neg (by omega), if_neg (by omega), if_neg (by omega), if_neg (by omega), if_neg (by omega), if_neg (by omega), if_neg (by omega)]
 have hsm := hv.small
 obtain ⟨x1, told, o1, hres⟩ : ∃ x1 told o1, (s.chans[op.on.toNat]'hil).m.close = (x1, told, o1) := ⟨_, _, _, rfl⟩
 have htin := xO hv hres
 have htl : told.length ≤ 100 := by omega
 have htold : ∀ u ∈ told, 0 ≤ u ∧ u < (y.places.length : Int) := fun u hu => by
   have := ft.isIn fun h0 => z82
   rw [lt] at this
   omega
 refine aG cN aA rfl rfl rfl rfl rfl ⟨rfl, rfl⟩ (aL 12 rfl (.trans (.R_R (aQ s)) (.ofR bG))) op.on.toNat hi.symm z48 (fun ad5 => ?_)
 refine aB _ cl78 rfl rfl rfl rfl ⟨rfl, rfl⟩ (fun A w hW => mF0 _ _ _ _ w ⟨hW.get 12 rfl (.trans (.R_R (aQ s)) (.ofR (mU _ _ op.on.toNat hil))), hW.get 12 rfl (.trans (.R_R (aQ s)) (.ofR (iC _ _ op.on.toNat hil))), hW.get 12 rfl (.trans (.R_R (aQ s)) (.ofR (iX _ _ op.on.toNat hil))), trivial⟩ hsm) ?_
 rw [hres]
 rintro v L ⟨q0, q1, q2, z1, rfl, rfl⟩
 apply CaseB.mk <;> intro g
 · have e0 : o1 = false := by simpa using g
   have hF : doM p.pure s.pure k = fZ s.pure 4 := by
     rw [hD, mC, hxa, hres]
     simp [e0]
   have hok : StepOk p.pure s.pure k := hso.2 ⟨by rw [hF]; exact ft.lsaid, hwn (by omega)⟩
   refine eC _ [] (G := []) lV0 rfl rfl rfl rfl ⟨rfl, rfl⟩ rfl rfl trivial trivial (fun A w ga hga hW hblk => wJ 4 ga s w hblk (hW.atG [] (G := []) trivial rfl trivial [16] (Fo := [_]) z139 rfl) (hW.atG_off z108 hga (ix := []) (G := []) trivial (jx := [16]) (Fo := [_]) z139) hs) ?_
   rintro v cs L ⟨y3, rfl, rfl, hy3, rfl⟩
   exact bC [0] ⟨y3, true, rfl, iZ hok, fun _ => hy3.trans hF.symm, fun e => z110, rfl⟩ z151 rfl ⟨rfl, trivial⟩ (fun _ => rfl)
 have e0 : o1 = true := by simpa using g
 refine fJ 10 rfl (show 0 < y.chans.length by omega) fun gg hgg _ _ => ?_
 refine aE aA z107 z107 z107 200 [((3, 11), .v (y.h6.val y.chans.length)), ((4, 1), .v (.int .i64 op.on)), ((5, 0), .v (.int .i64 (x1).room)), ((5, 1), .v (q0.val (x1).items.length)), ((5, 2), .v (q1.val (x1).senders.length)), ((5, 3), .v (q2.val (x1).getters.length)), ((5, 4), .v (.bool (x1).closed))] [] [] z118 z134 trivial rfl ?_
 refine iA (ti := aU tab) aA rfl rfl rfl rfl rfl ⟨rfl, rfl⟩ hgg op.on.toNat hi.symm hjl ?_
 refine fK (ti := aU tab) cN 10 aA rfl rfl rfl rfl rfl rfl rfl rfl hgg op.on.toNat 0 ⟨x1, q0, q1, q2⟩ rfl hjl rfl (fD ⟨x1, q0, q1, q2⟩) (fun _ => rfl) z79 z105 ?_
 refine cB _ [5, 6] (G := [_, _]) sE rfl rfl rfl rfl ⟨rfl, rfl⟩ rfl rfl ⟨rfl, rfl, trivial⟩ ⟨rfl, rfl, rfl, rfl, trivial⟩ (fun A w ga hga hW hblk => (jM ga _ _ p y _ _ _ told (y.pure) w hblk (hW.atG [5, 6] (G := [_, _]) ⟨rfl, rfl, trivial⟩ rfl ⟨rfl, rfl, rfl, rfl, trivial⟩ [13, 4] (Fo := [_, _]) z149 rfl) (hW.atG_off z108 hga (ix := [5, 6]) (G := [_, _]) ⟨rfl, rfl, trivial⟩ (jx := [13, 4]) (Fo := [_, _]) z149) rfl rfl hnm hn htold htl hpA hn4)) ?_
 rintro v cs L ⟨rfl, rfl, rfl⟩
 refine AllSl.mk fun zt => ?_
 refine cB _ [1, 2] (G := [_, _]) sE rfl rfl rfl rfl ⟨rfl, rfl⟩ rfl rfl ⟨rfl, rfl, trivial⟩ ⟨rfl, rfl, rfl, rfl, trivial⟩ (fun A w ga hga hW hblk => (jM ga _ _ p y _ _ zt [(k : Int)] (onM p.pure told (y.pure)) w hblk (hW.atG [1, 2] (G := [_, _]) ⟨rfl, rfl, trivial⟩ rfl ⟨rfl, rfl, rfl, rfl, trivial⟩ [14, 0] (Fo := [_, _]) z149 rfl) (hW.atG_off z108 hga (ix := [1, 2]) (G := [_, _]) ⟨rfl, rfl, trivial⟩ (jx := [14, 0]) (Fo := [_, _]) z149) ((aT _ _ _).1.trans rfl) ((aT _ _ _).2.trans rfl) hnm hn hw1 (by simp) (fun x hx => by have := gV p.pure told y.pure 20 (by omega) hp0 x hx; omega) hn4)) ?_
 rintro v cs L ⟨rfl, rfl, rfl⟩
 have hlp : (onM p.pure [(k : Int)] (onM p.pure told (y.pure))).places.length = y.places.length := ((aT _ _ _).1.trans ((aT _ _ _).1.trans rfl))
 have hls : (onM p.pure [(k : Int)] (onM p.pure told (y.pure))).status.length = y.status.length := ((aT _ _ _).2.trans ((aT _ _ _).2.trans rfl))
 refine CaseB.mk (fun g => by cases g) (fun _ => ?_)
 obtain ⟨y9, hy9⟩ : ∃ y9 : StateH, y9 = ⟨(onM p.pure [(k : Int)] (onM p.pure told (y.pure))).places, (onM p.pure [(k : Int)] (onM p.pure told (y.pure))).status, y.sems, y.onces, y.groups, y.barriers, (y.chans.set op.on.toNat ⟨x1, q0, q1, q2⟩), y.said, y.fault, y.h0, y.h1, y.h2, y.h3, y.h4, y.h5, y.h6, y.h7⟩ := ⟨_, rfl⟩
 have hP : y9.pure = doM p.pure s.pure k := by
   rw [hD, mC, hxa, hres]
   show _ = if o1 = true then onM p.pure (told ++ [(k : Int)]) (setChan s.pure op x1) else fZ s.pure 4
   rw [if_pos e0, ← hy, eN p.pure (told ++ [(k : Int)]) y.pure (setChan y.pure op x1) rfl rfl, rC, hy9]
   simp only [StateH.pure, setChan, List.map_set]
 have h64 : (doM p.pure s.pure k).said.length ≤ 64 := by
   rw [← hP, hy9]
   exact hsd
 have hok : StepOk p.pure s.pure k := hso.2 ⟨h64, hwn (by omega)⟩
 have hsm : y9.pure.small20 := by rw [hP]; exact hok.2.2.2.small
 have hv : aM y9 = aM y := by
   rw [hy9]; simp only [aM, hlp, hls, List.length_set]
 have hcl := fun w h => cL y9 w h hsm
 rw [hv] at hcl
 refine aB _ pL rfl rfl rfl rfl ⟨rfl, rfl⟩ (fun A w hW => hcl w ⟨sN hW (jN y9 (by rw [hy9]; exact fQ 0 1 8 9 10 11 3 12 rfl rfl rfl rfl rfl rfl rfl rfl) (by rw [hy9]; exact fun g hg => (iH hg).elim (fun h => inO 13 rfl h) (fun h => by simp only [gJ, List.mem_cons, List.not_mem_nil, or_false] at h; rcases h with rfl | rfl | rfl <;> first | exact inF (List.mem_of_getElem? (i := 4) rfl) | exact inF (List.mem_of_getElem? (i := 5) rfl) | exact inF (List.mem_of_getElem? (i := 6) rfl)))), trivial⟩) ?_
 rintro v L ⟨y3, rfl, hy3, rfl⟩
 exact bC [0] ⟨y3, true, rfl, iZ hok, fun _ => hy3.trans hP, fun e => z110, rfl⟩ z151 rfl ⟨rfl, trivial⟩ (fun _ => rfl)
end Go.Proofs.YtijmjecehppbfaaGreat
