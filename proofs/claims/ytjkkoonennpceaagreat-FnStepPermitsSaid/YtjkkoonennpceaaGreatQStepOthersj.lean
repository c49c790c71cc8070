/- FnStepOthers: texts that its proof stands on, part 10. -/
import Derived.Test.YtjkkoonennpceaaGreatQStepOthersi
namespace Go.Proofs.YtjkkoonennpceaaGreat
open Go Go.Sx Go.RowKit
theorem once_fits {p : Prog} {s : State} {k : Nat} {ops : List Op} {a st : Int} {op : Op} (r : Rdy p s k ops a st op) (hk : op.kind = 4) : Fits p (doOnce p s k op) := by
 obtain ⟨x, hx, hxa, ok, hv, hi⟩ := r.once hk
 have sw := fun x' => swap_onces hx x'
 have so := fun x' => swap_own hx x'
 have hn : (k : Int) ∉ x.waits := by
   have h := (ofKey_map_nil (g := fun t : Int => t)).1 ((sw x).none r.ev)
   simpa using h
 have hst : s.status.getD (k : Int).toNat 0 = st := by rw [Int.toNat_natCast, List.getD_eq_getElem?_getD, r.h3]; rfl
 have own1 : ∀ (y : Once) (u : Int), y.state = 1 → ofKey (evOwn op.on.toNat y) u = if y.owner = u then [op.on] else [] := fun y u h => by
   rw [evOwn, if_pos h, ofKey_one, hi]
 have own0 : ∀ (y : Once) (u : Int), y.state ≠ 1 → ofKey (evOwn op.on.toNat y) u = [] := fun y u h => by
   rw [evOwn, if_neg h]; rfl
 rw [doOnce, hxa, hst]
 by_cases h2 : st = 2
 · rw [if_pos h2]
   have hown : ofKey (owners s) k = [op.on] := by
     rcases r.ow with ⟨e, _⟩ | ⟨_, _, e⟩
     · omega
     · exact e
   have hx1 : x.state = 1 ∧ x.owner = k := by
     have hm : op.on ∈ ofKey (owners s) k := by rw [hown]; simp
     obtain ⟨j, y, hy, h1, h2, h3⟩ := owners_mem.1 hm
     have e : op.on.toNat = j := by omega
     rw [← e, hx] at hy
     injection hy with hy
     subst hy
     exact ⟨h1, h2⟩
   have o1 := (onceOk1 hx1.1).1 ok
   have nd := distinct_nd o1.2.2.1
   obtain ⟨t1, t2⟩ := taken (fun t : Int => t) (fun t : Int => (⟨4, (op.on.toNat : Int), 0⟩ : Waiting)) x.waits x.waits.length (by simpa using nd)
   simp only [List.take_length, List.drop_length, List.map_id'] at t1 t2
   refine r.onFits (s1 := setOnce s op ⟨2, (k : Int), op.arg, []⟩) (who := x.waits) (r.ft.shared.setOnce (s := s) ((onceOk2 rfl).2 ⟨r.thr, hv, rfl⟩)) rfl rfl rfl r.ft.lsaid r.ft.said
     (sw _) (fun u hu => (so _).same ?_) ((so _).gone (u := (k : Int)) ?_ ?_ ?_) nd t1 (fun u hu _ => t2 u hu) rfl
   · rw [own0 _ _ (show (2 : Int) ≠ 1 by decide), own1 x u hx1.1, hx1.2, if_neg (fun h => hu h.symm)]
   · rw [own1 x _ hx1.1, hx1.2, if_pos rfl]; simp
   · exact own0 _ _ (show (2 : Int) ≠ 1 by decide)
   · rw [hown]; simp
 rw [if_neg h2]
 have hown : ofKey (owners s) k = [] := by
   rcases r.ow with ⟨_, e⟩ | ⟨e, _⟩
   · exact e
   · exact (h2 e).elim
 rw [Once.enter]
 by_cases e0 : x.state = 0
 · simp only [if_pos e0, if_true]
   have o0 := (onceOk0 e0).1 ok
   have hw : x.waits = [] := o0.2.2
   refine r.waitFits (s1 := setOnce s op ⟨1, (k : Int), 0, []⟩) (b := 2) (r.ft.shared.setOnce (s := s) ((onceOk1 rfl).2 ⟨r.thr, rfl, show distinct [] = true by decide, by simp⟩)) rfl rfl rfl rfl (sw _) (fun u hu => (so _).same ?_) (fun u hu => ?_) (.inr ⟨rfl, rfl, hk, ?_⟩)
   · rw [own0 x u (by omega), own1 _ _ rfl, if_neg (fun h => hu h.symm)]
   · rw [show evOnce op.on.toNat x = [] by simp [evOnce, hw]]; rfl
   · exact ((so _).come hown).trans (by rw [own1 _ _ rfl, if_pos rfl])
 by_cases e1 : x.state = 1
 · simp only [if_neg e0, if_pos e1, if_true, if_neg (show ¬ (1 : Int) = 0 by decide)]
   have o1 := (onceOk1 e1).1 ok
   have hok : (k : Int) ≠ x.owner := fun e => by
     have h := (so x).none hown
     rw [own1 x _ e1, if_pos e.symm] at h
     cases h
   have hadd : ∀ u, ofKey (evOnce op.on.toNat { x with waits := x.waits ++ [(k : Int)] }) u = ofKey (evOnce op.on.toNat x) u ++ (if (k : Int) = u then [⟨4, op.on, 0⟩] else []) := fun u => by
     simp only [evOnce, List.map_append, ofKey_append, List.map_cons, List.map_nil, ofKey_one, hi]
   have hsame : ∀ u, ofKey (evOwn op.on.toNat { x with waits := x.waits ++ [(k : Int)] }) u = ofKey (evOwn op.on.toNat x) u := fun u => rfl
   refine r.waitFits (s1 := setOnce s op { x with waits := x.waits ++ [(k : Int)] }) (b := 1) (r.ft.shared.setOnce (s := s) ((onceOk1 (m := { x with waits := x.waits ++ [(k : Int)] }) e1).2 ⟨o1.1, o1.2.1, distinct_snoc o1.2.2.1 r.thr hn, ?_⟩)) rfl rfl rfl rfl (sw _) (fun u hu => (so _).same (hsame u)) (fun u hu => ?_) (.inl ⟨rfl, ?_, ((so _).same (hsame _)).trans hown⟩)
   · intro hm
     rcases List.mem_append.1 hm with hm | hm
     · exact o1.2.2.2 hm
     · simp at hm; exact hok hm.symm
   · rw [hadd, if_neg (fun h => hu h.symm), List.append_nil]
   · rw [hadd, if_pos rfl, (sw x).none r.ev, want, if_neg (by omega), hk]; rfl
 simp only [if_neg e0, if_neg e1, if_neg (show ¬ (2 : Int) = 0 by decide), if_neg (show ¬ (2 : Int) = 1 by decide)]
 exact r.onFits (s1 := setOnce s op x) (who := []) (r.ft.shared.setOnce (s := s) ok) rfl rfl rfl r.ft.lsaid r.ft.said
   (sw x) (fun u hu => (so x).same rfl) (((so x).same rfl).trans hown) (by simp) (fun u hu => by simp at hu) (fun _ _ _ => rfl) ((sw x).none r.ev)
theorem chan_fx (i : Nat) (x : Chan) (u : Int) : ofKey (evChan i x) u = ofKey (x.senders.map fun l => (l.t, (⟨8, (i : Int), l.v⟩ : Waiting))) u ++ ofKey (x.getters.map fun t => (t, (⟨9, (i : Int), 0⟩ : Waiting))) u := by rw [evChan, ofKey_append]
theorem chan_out {i : Nat} {x : Chan} {u : Int} (h : ofKey (evChan i x) u = []) : u ∉ x.threads := by
 rw [chan_fx, List.append_eq_nil_iff] at h
 intro hm
 rcases List.mem_append.1 hm with hm | hm
 · exact (ofKey_map_nil (g := Letter.t)).1 h.1 hm
 · exact (ofKey_map_nil (g := fun t : Int => t)).1 h.2 (by simpa using hm)
theorem chan_nd {x : Chan} (h : x.Valid) : (x.senders.map (·.t)).Nodup ∧ x.getters.Nodup := by
 have := distinct_nd h.di
 rw [Chan.threads, List.nodup_append] at this
 exact ⟨this.1, this.2.1⟩
theorem valid_of {x : Chan} (h : x.Valid) : x.valid = true := by rw [Chan.valid, decide_eq_true h]
theorem send_fits {p : Prog} {s : State} {k : Nat} {ops : List Op} {a st : Int} {op : Op} (r : Rdy p s k ops a st op) (hk : op.kind = 8) (hl : (doSend p s k op).said.length ≤ 64) : Fits p (doSend p s k op) := by
 obtain ⟨x, hx, hxa, hv, hval, hi⟩ := r.chan (by omega)
 have sw := fun x' => swap_chans hx x'
 have h0 := (sw x).none r.ev
 have hn := chan_out h0
 have nd := chan_nd hv
 rw [doSend, hxa] at hl ⊢
 by_cases hc : (x.send k op.arg).2.2.2 = true
 · have hv' := send_valid hc
   obtain ⟨_, c1, c2, c3, c4⟩ := send_ok hc
   rw [if_pos hc] at hl ⊢
   have hsd : x.send k op.arg = if h : 0 < x.getters.length then ({ x with getters := x.getters.drop 1 }, [x.getters[0]], true, true) else if (x.items.length : Int) < x.room then ({ x with items := x.items ++ [op.arg] }, [], true, true) else ({ x with senders := x.senders ++ [⟨(k : Int), op.arg⟩] }, [], false, true) := by
     rw [Chan.send, if_pos ⟨hv, c1, c2, c3, c4⟩]
   rw [hsd] at hv' hl ⊢
   by_cases hg : 0 < x.getters.length
   · simp only [dif_pos hg, if_true] at hv' hl ⊢
     rw [if_neg (by simp)] at hl ⊢
     have hs : x.senders = [] := Classical.byContradiction fun hne => by rw [(hv.se hne).2.1] at hg; simp at hg
     obtain ⟨t1, t2⟩ := taken (fun t : Int => t) (fun t : Int => (⟨9, (op.on.toNat : Int), 0⟩ : Waiting)) x.getters 1 (by simpa using nd.2)
     have e1 : x.getters.take 1 = [x.getters[0]] := take1 hg
     simp only [e1, List.map_id'] at t1 t2
     have fx : ∀ u, ofKey (evChan op.on.toNat x) u = ofKey (x.getters.map fun t => (t, (⟨9, (op.on.toNat : Int), 0⟩ : Waiting))) u := fun u => by rw [chan_fx, hs]; rfl
     have fx' : ∀ u, ofKey (evChan op.on.toNat { x with getters := x.getters.drop 1 }) u = ofKey ((x.getters.drop 1).map fun t => (t, (⟨9, (op.on.toNat : Int), 0⟩ : Waiting))) u := fun u => by rw [chan_fx]; show ofKey (x.senders.map _) u ++ _ = _; rw [hs]; rfl
     rw [onM_said] at hl
     refine r.onFits (s1 := sayM (setChan s op { x with getters := x.getters.drop 1 }) op.arg) (who := [x.getters[0]]) ((r.ft.shared.setChan (s := s) hx (valid_of hv') rfl).of rfl rfl rfl rfl rfl) rfl rfl rfl hl
       (fun v h => by
         rcases List.mem_append.1 h with h | h
         · exact r.ft.said v h
         · simp at h; rw [h]; exact hval hk)
       (sw _) (fun _ _ => rfl) (r.own0 (by omega)) (by simp) (fun u hu => by rw [fx, fx']; exact t1 u hu) (fun u hu _ => by rw [fx, fx']; exact t2 u hu) ?_
     rw [fx']
     rw [fx] at h0
     by_cases hm : (k : Int) ∈ [x.getters[0]]
     · exact (t1 _ hm).2
     · exact (t2 _ hm).trans h0
   · simp only [dif_neg hg] at hv' hl ⊢
     by_cases hr : (x.items.length : Int) < x.room
     · simp only [if_pos hr, if_true] at hv' hl ⊢
       exact r.onFits (s1 := setChan s op { x with items := x.items ++ [op.arg] }) (who := []) (r.ft.shared.setChan (s := s) hx (valid_of hv') rfl) rfl rfl rfl r.ft.lsaid r.ft.said
         (sw _) (fun _ _ => rfl) (r.own0 (by omega)) (by simp) (fun u hu => by simp at hu) (fun _ _ _ => rfl) h0
     · simp only [if_neg hr, Bool.false_eq_true, if_false] at hv' hl ⊢
       have hadd : ∀ u, ofKey (evChan op.on.toNat { x with senders := x.senders ++ [⟨(k : Int), op.arg⟩] }) u = ofKey (evChan op.on.toNat x) u ++ (if (k : Int) = u then [⟨8, op.on, op.arg⟩] else []) := fun u => by
         have hg' : x.getters = [] := by simpa using hg
         simp only [evChan, hg', List.map_append, ofKey_append, List.map_cons, List.map_nil, ofKey_one, hi, List.append_nil]
       refine r.waitFits (s1 := setChan s op _) (b := 1) (r.ft.shared.setChan (s := s) hx (valid_of hv') rfl) rfl rfl rfl rfl (sw _) (fun _ _ => rfl) (fun u hu => ?_) (.inl ⟨rfl, ?_, r.own0 (by omega)⟩)
       · rw [hadd, if_neg (fun h => hu h.symm), List.append_nil]
       · rw [hadd, if_pos rfl, h0, want, if_pos (by omega), hk]; rfl
 · rw [if_neg hc]
   exact r.ft.fault (by omega) (by omega)
theorem get_fits {p : Prog} {s : State} {k : Nat} {ops : List Op} {a st : Int} {op : Op} (r : Rdy p s k ops a st op) (hk : op.kind = 9) (hl : (doGet p s k op).said.length ≤ 64) : Fits p (doGet p s k op) := by
 obtain ⟨x, hx, hxa, hv, hval, hi⟩ := r.chan (by omega)
 have sw := fun x' => swap_chans hx x'
 have h0 := (sw x).none r.ev
 have hn := chan_out h0
 have nd := chan_nd hv
 have hok : x.Valid ∧ isThread (k : Int) = true ∧ ¬ (k : Int) ∈ x.threads := ⟨hv, r.thr, hn⟩
 have hgt : (x.get k).2.2.2.2 = true := by
   rw [Chan.get, if_pos hok]
   split
   · rfl
   · split <;> rfl
 have hv' := get_valid hgt
 have gv : ∀ y ∈ x.gItems, isValue y = true := fun y hy => by
   rcases List.mem_append.1 hy with hy | hy
   · exact hv.iv y hy
   · obtain ⟨l, hl, rfl⟩ := List.mem_map.1 hy
     exact hv.sv l (List.mem_of_mem_take hl)
 rw [doGet, hxa] at hl ⊢
 have hsd : x.get k = if 0 < x.gItems.length then ({ x with items := x.gItems.drop 1, senders := x.senders.drop 1 }, x.gItems.headD 0, 1, x.gWho, true) else if x.closed = true then ({ x with items := [], senders := [] }, 0, 2, [], true) else ({ x with items := [], senders := [], getters := x.getters ++ [(k : Int)] }, 0, 0, [], true) := by
   rw [Chan.get, if_pos hok]
 rw [hsd] at hv' hl ⊢
 by_cases hc : 0 < x.gItems.length
 · simp only [if_pos hc] at hv' hl ⊢
   rw [if_neg (by decide), if_pos trivial] at hl ⊢
   rw [onM_said] at hl
   obtain ⟨t1, t2⟩ := taken Letter.t (fun l : Letter => (⟨8, (op.on.toNat : Int), l.v⟩ : Waiting)) x.senders 1 nd.1
   have hgw : x.gWho = (x.senders.take 1).map Letter.t := rfl
   rw [← hgw] at t1 t2
   have fx' : ∀ (its : List Int) u, ofKey (evChan op.on.toNat { x with items := its, senders := x.senders.drop 1 }) u = ofKey ((x.senders.drop 1).map fun l => (l.t, (⟨8, (op.on.toNat : Int), l.v⟩ : Waiting))) u ++ ofKey (x.getters.map fun t => (t, (⟨9, (op.on.toNat : Int), 0⟩ : Waiting))) u := fun its u => chan_fx _ _ _
   have hg0 : ∀ u ∈ x.gWho, ofKey (x.getters.map fun t => (t, (⟨9, (op.on.toNat : Int), 0⟩ : Waiting))) u = [] := fun u hu => by
     by_cases hs : x.senders = []
     · rw [hgw, hs] at hu; simp at hu
     · rw [(hv.se hs).2.1]; rfl
   refine r.onFits (s1 := sayM (setChan s op { x with items := x.gItems.drop 1, senders := x.senders.drop 1 }) (x.gItems.headD 0)) (who := x.gWho) ((r.ft.shared.setChan (s := s) hx (valid_of hv') rfl).of rfl rfl rfl rfl rfl) rfl rfl rfl hl
     (fun v h => by
       rcases List.mem_append.1 h with h | h
       · exact r.ft.said v h
       · simp only [List.mem_singleton] at h
         rw [h, head0 hc]; exact gv _ (List.getElem_mem hc))
     (sw _) (fun _ _ => rfl) (r.own0 (by omega)) (nd.1.sublist ((List.take_sublist _ _).map _)) (fun u hu => ⟨fun h => (t1 u hu).1 ?_, by rw [fx', (t1 u hu).2, hg0 u hu]; rfl⟩) (fun u hu _ => by rw [fx', chan_fx, t2 u hu]) ?_
   · rw [chan_fx, List.append_eq_nil_iff] at h; exact h.1
   · rw [chan_fx, List.append_eq_nil_iff] at h0
     rw [fx', h0.2, List.append_nil]
     by_cases hm : (k : Int) ∈ x.gWho
     · exact (t1 _ hm).2
     · exact (t2 _ hm).trans h0.1
 · simp only [if_neg hc] at hv' hl ⊢
   have hI : x.items = [] ∧ x.senders = [] := by
     simp [Chan.gItems] at hc
     refine ⟨hc.1, ?_⟩
     cases hs : x.senders with
     | nil => rfl
     | cons a r => simp [hs] at hc
   by_cases hcl : x.closed = true
   · simp only [if_pos hcl] at hv' hl ⊢
     rw [if_neg (by decide), if_neg (by decide)] at hl ⊢
     have fx : ∀ u, ofKey (evChan op.on.toNat { x with items := [], senders := [] }) u = ofKey (evChan op.on.toNat x) u := fun u => by
       rw [chan_fx, chan_fx, hI.2]
     exact r.onFits (s1 := setChan s op { x with items := [], senders := [] }) (who := []) (r.ft.shared.setChan (s := s) hx (valid_of hv') rfl) rfl rfl rfl r.ft.lsaid r.ft.said
       (sw _) (fun _ _ => rfl) (r.own0 (by omega)) (by simp) (fun u hu => by simp at hu) (fun u _ _ => fx u) ((fx _).trans h0)
   · simp only [if_neg hcl] at hv' hl ⊢
     rw [if_pos trivial] at hl ⊢
     have hadd : ∀ u, ofKey (evChan op.on.toNat { x with items := [], senders := [], getters := x.getters ++ [(k : Int)] }) u = ofKey (evChan op.on.toNat x) u ++ (if (k : Int) = u then [⟨9, op.on, 0⟩] else []) := fun u => by
       simp only [evChan, hI.2, List.map_append, ofKey_append, List.map_cons, List.map_nil, ofKey_one, hi, List.append_assoc]
     refine r.waitFits (s1 := setChan s op _) (b := 1) (r.ft.shared.setChan (s := s) hx (valid_of hv') rfl) rfl rfl rfl rfl (sw _) (fun _ _ => rfl) (fun u hu => ?_) (.inl ⟨rfl, ?_, r.own0 (by omega)⟩)
     · rw [hadd, if_neg (fun h => hu h.symm), List.append_nil]
     · rw [hadd, if_pos rfl, h0, want, if_neg (by omega), hk]; rfl
theorem close_fits {p : Prog} {s : State} {k : Nat} {ops : List Op} {a st : Int} {op : Op} (r : Rdy p s k ops a st op) (hk : op.kind = 10) : Fits p (doClose p s k op) := by
 obtain ⟨x, hx, hxa, hv, hval, hi⟩ := r.chan (by omega)
 have sw := fun x' => swap_chans hx x'
 have h0 := (sw x).none r.ev
 have nd := chan_nd hv
 rw [doClose, hxa]
 by_cases hc : x.close.2.2 = true
 · have hv' := close_valid hc
   obtain ⟨_, c1, c2⟩ := close_ok hc
   rw [if_pos hc]
   have hsd : x.close = ({ x with senders := [], getters := [], closed := true }, x.getters, true) := by
     rw [Chan.close, if_pos ⟨hv, c1, c2⟩]
   rw [hsd] at hv' ⊢
   obtain ⟨t1, t2⟩ := taken (fun t : Int => t) (fun t : Int => (⟨9, (op.on.toNat : Int), 0⟩ : Waiting)) x.getters x.getters.length (by simpa using nd.2)
   simp only [List.take_length, List.drop_length, List.map_id'] at t1 t2
   have fx : ∀ u, ofKey (evChan op.on.toNat x) u = ofKey (x.getters.map fun t => (t, (⟨9, (op.on.toNat : Int), 0⟩ : Waiting))) u := fun u => by rw [chan_fx, c2]; rfl
   exact r.onFits (s1 := setChan s op { x with senders := [], getters := [], closed := true }) (who := x.getters) (r.ft.shared.setChan (s := s) hx (valid_of hv') rfl) rfl rfl rfl r.ft.lsaid r.ft.said
     (sw _) (fun _ _ => rfl) (r.own0 (by omega)) nd.2 (fun u hu => ⟨by rw [fx]; exact (t1 u hu).1, rfl⟩) (fun u hu _ => by rw [fx]; exact t2 u hu) rfl
 · rw [if_neg hc]
   exact r.ft.fault (by omega) (by omega)
theorem step_fits {p : Prog} {s : State} {t : Int} (ft : Fits p s) (h : t ∈ readyM s) (hl : (doM p s t).said.length ≤ 64) (hw : ¬ Worn p s t) : Fits p (doM p s t) := by
 obtain ⟨k, ops, a, st, op, rfl, r⟩ := rdy ft h
 rw [Worn, r.at_] at hw
 rw [doM, r.at_, doOp] at hl ⊢
 by_cases k1 : op.kind = 1
 · simp only [if_pos k1] at hl ⊢
   rw [onM_said] at hl
   exact say_fits r k1 (by simpa [sayM] using hl)
 by_cases k2 : op.kind = 2
 · simp only [if_neg k1, if_pos k2] at hl ⊢; exact acquire_fits r k2
 by_cases k3 : op.kind = 3
 · simp only [if_neg k1, if_neg k2, if_pos k3] at hl ⊢; exact release_fits r k3
 by_cases k4 : op.kind = 4
 · simp only [if_neg k1, if_neg k2, if_neg k3, if_pos k4] at hl ⊢; exact once_fits r k4
 by_cases k5 : op.kind = 5
 · simp only [if_neg k1, if_neg k2, if_neg k3, if_neg k4, if_pos k5] at hl ⊢; exact add_fits r k5
 by_cases k6 : op.kind = 6
 · simp only [if_neg k1, if_neg k2, if_neg k3, if_neg k4, if_neg k5, if_pos k6] at hl ⊢; exact wait_fits r k6
 by_cases k7 : op.kind = 7
 · simp only [if_neg k1, if_neg k2, if_neg k3, if_neg k4, if_neg k5, if_neg k6, if_pos k7] at hl ⊢
   exact arrive_fits r k7 fun e => hw ⟨k7, e⟩
 by_cases k8 : op.kind = 8
 · simp only [if_neg k1, if_neg k2, if_neg k3, if_neg k4, if_neg k5, if_neg k6, if_neg k7, if_pos k8] at hl ⊢; exact send_fits r k8 hl
 by_cases k9 : op.kind = 9
 · simp only [if_neg k1, if_neg k2, if_neg k3, if_neg k4, if_neg k5, if_neg k6, if_neg k7, if_neg k8, if_pos k9] at hl ⊢; exact get_fits r k9 hl
 simp only [if_neg k1, if_neg k2, if_neg k3, if_neg k4, if_neg k5, if_neg k6, if_neg k7, if_neg k8, if_neg k9] at hl ⊢
 have h10 := r.ok.2.1
 have h11 := r.ok.1
 exact close_fits r (by omega)
theorem worn_no {p : Prog} {s : State} {t : Int} (ft : Fits p s) (h : t ∈ readyM s) (hw : Worn p s t) : ¬ Fits p (doM p s t) := by
 obtain ⟨k, ops, a, st, op, rfl, r⟩ := rdy ft h
 rw [Worn, r.at_] at hw
 obtain ⟨k7, hw⟩ := hw
 obtain ⟨x, hx, hxa, ok, hi⟩ := r.barrier k7
 have e : doM p s (k : Int) = waitM (setBarrier s op ⟨0, 0, []⟩) k 1 := by
   simp only [doM, r.at_, doOp, k7, doArrive, hw]
   simp
 rw [e]
 intro f
 have hi : op.on.toNat < s.barriers.length := (List.getElem?_eq_some_iff.1 hx).1
 have h1 := (f.barriers op.on.toNat ⟨0, 0, []⟩ (by simp [waitM, setBarrier, hi])).1.1
 simp at h1
def StepOk (p : Prog) (s : State) (t : Int) : Prop := Fits p s ∧ t ∈ readyM s ∧ (doM p s t).said.length ≤ 64 ∧ Fits p (doM p s t)
theorem stepOk_iff {p : Prog} {s : State} {t : Int} : StepOk p s t ↔ Fits p s ∧ t ∈ readyM s ∧ (doM p s t).said.length ≤ 64 ∧ ¬ Worn p s t :=
 ⟨fun ⟨h1, h2, h3, h4⟩ => ⟨h1, h2, h3, fun hw => worn_no h1 h2 hw h4⟩, fun ⟨h1, h2, h3, h4⟩ => ⟨h1, h2, h3, step_fits h1 h2 h3 h4⟩⟩
def innerL (a : List SemH) (b : List OnceH) (c : List GroupH) (d : List BarrierH) (e : List ChanH) : List Fct := a.flatMap semO ++ (b.flatMap onceO ++ (c.flatMap groupO ++ (d.flatMap barrierO ++ e.flatMap chanO)))
def innerO (y : StateH) : List Fct := innerL y.sems y.onces y.groups y.barriers y.chans
def outerO (y : StateH) : List Fct := [own y.h0 3 cInt 1 y.places, own y.h1 3 cInt 1 y.status, own y.h2 57 cSemH 3 y.sems, own y.h3 70 cOnceH 4 y.onces, own y.h4 74 cGroupH 2 y.groups, own y.h5 65 cBarrierH 3 y.barriers, own y.h6 80 cChanH 5 y.chans, own y.h7 3 cInt 1 y.said]
theorem permMid {α : Type} (x : α) (A B L : List α) (h : (A ++ B).Perm L) : (A ++ (x :: B)).Perm (x :: L) := List.perm_middle.trans (.cons x h)
theorem perm8 {α : Type} (a0 a1 a2 a3 a4 a5 a6 a7 : α) (A B C D E : List α) : (a0 :: a1 :: ((a2 :: A) ++ ((a3 :: B) ++ ((a4 :: C) ++ ((a5 :: D) ++ ((a6 :: E) ++ [a7])))))).Perm ([a0, a1, a2, a3, a4, a5, a6, a7] ++ (A ++ (B ++ (C ++ (D ++ E))))) := by
 simp only [List.cons_append, List.nil_append]
 refine .cons a0 (.cons a1 (.cons a2 (permMid a3 A _ _ ?_)))
 rw [← List.append_assoc]
 refine permMid a4 _ _ _ ?_
 rw [← List.append_assoc]
 refine permMid a5 _ _ _ ?_
 rw [← List.append_assoc]
 refine permMid a6 _ _ _ ?_
 rw [← List.append_assoc]
 refine permMid a7 _ _ _ ?_
 exact .of_eq (by simp [List.append_assoc])
theorem stateO_perm (y : StateH) : (stateO y).Perm (outerO y ++ innerO y) := perm8 _ _ _ _ _ _ _ _ _ _ _ _ _
theorem getR {E : Env} {A : Nat → Nat} {n : Nat} {B : List (Nat × TypeId × Nat)} {M : List ((Nat × Nat) × SV)} {F : List Fct} {w : World} (h : WD E A n B M F w) {G : List Fct} (hG : ∀ g ∈ G, ∃ f ∈ F, Rd f g.aged) : (fR G).P w ∧ ∀ b, (fR G).foot b → b < w.heap.size := by
 refine ⟨fun g hg => ?_, ?_⟩
 · obtain ⟨g0, hg0, rfl⟩ := List.mem_map.1 hg
   obtain ⟨f, hf, hr⟩ := hG g0 hg0
   exact hr.p w (h.fct f hf).1
 · rintro b ⟨g, hg, hb⟩
   obtain ⟨g0, hg0, rfl⟩ := List.mem_map.1 hg
   obtain ⟨f, hf, hr⟩ := hG g0 hg0
   exact ((h.fct f hf).2.1 b (hr.foot b hb)).1
theorem stateR {F : List Fct} (y : StateH) (ho : ∀ g ∈ outerO y, g ∈ F) (hin : ∀ g ∈ innerO y, ∃ f ∈ F, Rd f g.aged) : ∀ g ∈ stateO y, ∃ f ∈ F, Rd f g.aged := by
 intro g hg
 rcases List.mem_append.1 ((stateO_perm y).mem_iff.1 hg) with hg | hg
 · exact ⟨g, ho g hg, .aged g⟩
 · exact hin g hg
theorem inO {Zs G : List Fct} (k : Nat) (hk : Zs[k]? = some (fO G)) {g : Fct} (hg : g ∈ G) : ∃ f ∈ Zs, Rd f g.aged := ⟨_, List.mem_of_getElem? hk, .ofO ⟨g, hg, .refl _⟩⟩
theorem inF {F : List Fct} {g : Fct} (hg : g ∈ F) : ∃ f ∈ F, Rd f g.aged := ⟨g, hg, .aged g⟩
theorem flat_set {α : Type} {f : α → List Fct} {xs : List α} {i : Nat} {x : α} {g : Fct} (h : g ∈ (xs.set i x).flatMap f) : g ∈ xs.flatMap f ∨ g ∈ f x := by
 obtain ⟨z, hz, hg⟩ := List.mem_flatMap.1 h
 rcases List.mem_or_eq_of_mem_set hz with hz | rfl
 · exact .inl (List.mem_flatMap.2 ⟨z, hz, hg⟩)
 · exact .inr hg
theorem inner_sem {a b c d e i x g} (h : g ∈ innerL (a.set i x) b c d e) : g ∈ innerL a b c d e ∨ g ∈ semO x := by
 rcases List.mem_append.1 h with h | h
 · exact (flat_set h).imp (fun h => List.mem_append_left _ h) id
 · exact .inl (List.mem_append_right _ h)
theorem inner_once {a b c d e i x g} (h : g ∈ innerL a (b.set i x) c d e) : g ∈ innerL a b c d e ∨ g ∈ onceO x := by
 rcases List.mem_append.1 h with h | h
 · exact .inl (List.mem_append_left _ h)
 rcases List.mem_append.1 h with h | h
 · exact (flat_set h).imp (fun h => List.mem_append_right _ (List.mem_append_left _ h)) id
 · exact .inl (List.mem_append_right _ (List.mem_append_right _ h))
theorem inner_group {a b c d e i x g} (h : g ∈ innerL a b (c.set i x) d e) : g ∈ innerL a b c d e ∨ g ∈ groupO x := by
 rcases List.mem_append.1 h with h | h
 · exact .inl (List.mem_append_left _ h)
 rcases List.mem_append.1 h with h | h
 · exact .inl (List.mem_append_right _ (List.mem_append_left _ h))
 rcases List.mem_append.1 h with h | h
 · exact (flat_set h).imp (fun h => List.mem_append_right _ (List.mem_append_right _ (List.mem_append_left _ h))) id
 · exact .inl (List.mem_append_right _ (List.mem_append_right _ (List.mem_append_right _ h)))
theorem inner_barrier {a b c d e i x g} (h : g ∈ innerL a b c (d.set i x) e) : g ∈ innerL a b c d e ∨ g ∈ barrierO x := by
 rcases List.mem_append.1 h with h | h
 · exact .inl (List.mem_append_left _ h)
 rcases List.mem_append.1 h with h | h
 · exact .inl (List.mem_append_right _ (List.mem_append_left _ h))
 rcases List.mem_append.1 h with h | h
 · exact .inl (List.mem_append_right _ (List.mem_append_right _ (List.mem_append_left _ h)))
 rcases List.mem_append.1 h with h | h
 · exact (flat_set h).imp (fun h => List.mem_append_right _ (List.mem_append_right _ (List.mem_append_right _ (List.mem_append_left _ h)))) id
 · exact .inl (List.mem_append_right _ (List.mem_append_right _ (List.mem_append_right _ (List.mem_append_right _ h))))
theorem inner_chan {a b c d e i x g} (h : g ∈ innerL a b c d (e.set i x)) : g ∈ innerL a b c d e ∨ g ∈ chanO x := by
 rcases List.mem_append.1 h with h | h
 · exact .inl (List.mem_append_left _ h)
 rcases List.mem_append.1 h with h | h
 · exact .inl (List.mem_append_right _ (List.mem_append_left _ h))
 rcases List.mem_append.1 h with h | h
 · exact .inl (List.mem_append_right _ (List.mem_append_right _ (List.mem_append_left _ h)))
 rcases List.mem_append.1 h with h | h
 · exact .inl (List.mem_append_right _ (List.mem_append_right _ (List.mem_append_right _ (List.mem_append_left _ h))))
 · exact (flat_set h).imp (fun h => List.mem_append_right _ (List.mem_append_right _ (List.mem_append_right _ (List.mem_append_right _ h)))) id
theorem Fits.small {p : Prog} {s : State} (h : Fits p s) : s.small20 := by
 have n4 := h.prog.n4
 have e0 := h.np
 have e1 := h.ns
 have e2 := h.lsems
 have e3 := h.lonces
 have e4 := h.lgroups
 have e5 := h.lbarriers
 have e6 := h.lchans
 have e7 := h.lsaid
 have m0 := h.prog.sems.1
 have m1 := h.prog.groups.1
 have m2 := h.prog.barriers.1
 have m3 := h.prog.rooms.1
 refine ⟨by omega, by omega, ⟨by omega, fun x hx => ?_⟩, ⟨by omega, fun x hx => ?_⟩, ⟨by omega, fun x hx => ?_⟩, ⟨by omega, fun x hx => ?_⟩, ⟨by omega, fun x hx => ?_⟩, by omega⟩
 · obtain ⟨i, hi, rfl⟩ := List.getElem_of_mem hx
   have := (h.sems i _ (List.getElem?_eq_getElem hi)).1.q6
   unfold Sem.small20; omega
 · have := onceOk_len (h.onces x hx)
   unfold Once.small20; omega
 · have := groupOk_len (h.groups x hx)
   unfold Group.small20; omega
 · obtain ⟨i, hi, rfl⟩ := List.getElem_of_mem hx
   have := barrierOk_len (h.barriers i _ (List.getElem?_eq_getElem hi)).1
   unfold Barrier.small20; omega
 · obtain ⟨i, hi, rfl⟩ := List.getElem_of_mem hx
   have hv := (h.chans i _ (List.getElem?_eq_getElem hi)).1
   have h1 := chanOk_len hv
   have h2 : (s.chans[i]).Valid := by simpa [Chan.valid] using hv
   have := h2.it
   have := h2.r1
   refine ⟨by omega, by omega, by omega⟩
def StepR (p : Prog) (s : State) (t : Int) (v : Value) (L : List Fct) : Prop := ∃ (y : StateH) (b : Bool), v = .tuple #[stateV y, .bool b] ∧ (b = true ↔ StepOk p s t) ∧ (b = true → y.pure = doM p s t) ∧ (b = false → y.pure = State.zero) ∧ L = [fO (stateO y)]
def stateCs (s : StateH) : List Value := [s.h0.val s.places.length, s.h1.val s.status.length, s.h2.val s.sems.length, s.h3.val s.onces.length, s.h4.val s.groups.length, s.h5.val s.barriers.length, s.h6.val s.chans.length, s.h7.val s.said.length, .int .i64 s.fault]
set_option maxHeartbeats 4000000 in
theorem fault_c (f : Int) (g : Nat) (s : StateH) (w : World) (hg : Blk w g 30 (stateCs s)) (h : AtG w [] [fR (stateO s)]) (hoff : ∀ f ∈ [] ++ [fR (stateO s)], ∀ b, f.foot b → b ≠ g) (hs : s.pure.small20) :
   Calls Tryz.prog 80 #[.int .i64 f, .pointer (some ⟨g, 0, none⟩)] w (RetPG w g 30 9 [] fun v cs L => ∃ y : StateH, v = .tuple #[stateV y, .bool true] ∧ cs = stateCs s ∧ y.pure = faultM s.pure f ∧ L = [fO (stateO y)]) := by
 refine callsPGc_fn Tryz.func80 rfl tabOk w _ rfl _ rfl _ 30 _ 9 rfl hg _ _ h hoff ⟨rfl, rfl, trivial⟩ [.int .i64 f] _ rfl rfl ?_
 refine stop_call _ cl79 rfl rfl rfl rfl ⟨rfl, rfl⟩ (fun A w hW => stateClone_c s w ⟨hW.get 0 rfl (.refl _), trivial⟩ hs) ?_
 rintro v L ⟨y, rfl, hy, rfl⟩
 obtain ⟨y2, hy2⟩ : ∃ y2 : StateH, y2 = { y with fault := f } := ⟨_, rfl⟩
 refine ret_shift (.joinO [0] (Gs := [_]) ⟨.inl ⟨_, rfl, .o⟩, trivial⟩ rfl (G := stateO y2) (by rw [hy2]; exact .of_eq z90)) ?_
 exact retPG [0] ⟨y2, by subst hy2; rfl, rfl, by rw [hy2, faultM, ← hy]; rfl, rfl⟩ rfl rfl z133 rfl ⟨rfl, trivial⟩ (fun _ => rfl)
theorem d_box {E : Env} {o : Oper} {Ms : List ((Nat × Nat) × SV)} {Fs : List Fct} {next : St → Prop} {T : List (Nat × SV)} {n c : Nat} {B : List (Nat × TypeId × Nat)} {M : List ((Nat × Nat) × SV)} {F : List Fct} {t : TypeId} {x : Operand} {d : Nat} {s : SV} {l : List SV}
   (hop : o.op = .box t x) (hd : Dst E o d) (hx : evalO T x = some s) (hl : cellsSV s = some l) (hnext : storeK n 0 l M fun M' => next (.mk ((d, .p n 0) :: T) (n + 1) (c + 1) ((n, t, listLen l) :: B) M' F)) :
   OpW (opD E o Ms Fs next T n c B M F) := by
 refine ⟨fun hkm hkf A a w hW hT => ?_⟩
 rw [storeK_eq] at hnext
 obtain ⟨h1, h2⟩ := evalO_sound hT hx
 obtain ⟨c1, c2, c3⟩ := cellsSV_spec (A := A) hl h2
 have hal := hW.alloc c2 t
 rw [← listLen_eq] at hal
 have hcells : (l.map (SV.den A)).toArray = (s.den A).cells := by rw [← c1]
 rw [hcells] at hal
 have hr : (execOp a.eval o).run E.P w = .ok (.value (.pointer (some ⟨w.heap.size, 0, none⟩))) (w.alloc (.cells (s.den A).cells t)) := by
   simp [execOp, hop, Instr.box, newVar, newRow, h1]
 refine upon_of_value hr ?_
 rw [hd.1]
 refine ⟨fun k => if k = n then w.heap.size else A k, _, n + 1, c + 1, _, _, F, fun k hk => ?_, Nat.le_succ n, fun x hx => by simp [hx], fun k o v hv => ?_, hkf, hal, fun w2 => ?_, hnext⟩
 · simp only [if_neg (show k ≠ n by omega)]
 · have hm := hkm k o v hv
   obtain ⟨⟨ty, sz, hk⟩, _⟩ := hW.mem k o v hm
   have := (hW.key _ _ _ hk).1
   rw [lookM_storeL, if_neg (by omega)]
   exact hm
 · have := (hT.alloc w.heap.size w2).put (d := d) (v := .p n 0) (by have := hd.lt; simpa using this) (Nat.lt_succ_self n)
   simpa [SV.den, ptr] using this
theorem release_told {m x1 : Sem} {n : Int} {told : List Int} (ok : SemOk m) (h1 : 1 ≤ n) (h : m.release n = some (x1, told)) : (∀ u ∈ told, u ∈ m.queue.map (·.t)) ∧ told.length ≤ 6 := by
 rw [Sem.release] at h
 split at h
 · obtain ⟨j, i1, i2, _⟩ := handL_ok m.queue (m.free + n) (by have := ok.f0; omega) (fun w hw => (ok.cnt w hw).1)
   injection h with h
   injection h with h2 h3
   rw [i2] at h3
   subst h3
   have := ok.q6
   refine ⟨fun u hu => ?_, by simp; omega⟩
   obtain ⟨w, hw, rfl⟩ := List.mem_map.1 hu
   exact List.mem_map_of_mem (List.mem_of_mem_take hw)
 · cases h
theorem add_told {m x1 : Group} {n : Int} {told : List Int} (ok : GroupOk m) (h : m.add n = some (x1, told)) : (∀ u ∈ told, u ∈ m.waits) ∧ told.length ≤ 6 := by
 have hl := groupOk_len ok
 rw [Group.add] at h
 split at h
 · split at h
   · injection h with h; injection h with h2 h3; subst h3; exact ⟨fun u hu => hu, hl⟩
   · injection h with h; injection h with h2 h3; subst h3; exact ⟨fun u hu => by simp at hu, by simp⟩
 · cases h
theorem arrive_told {m x1 : Barrier} {t : Int} {told : List Int} (ok : BarrierOk m) (h : m.arrive t = some (x1, told)) : (∀ u ∈ told, u ∈ m.waits ∨ u = t) ∧ told.length ≤ 7 := by
 have hl := barrierOk_len ok
 rw [Barrier.arrive] at h
 split at h
 · injection h with h; injection h with h2 h3; subst h3; exact ⟨fun u hu => by simp at hu, by simp⟩
 · split at h
   · cases h
   · injection h with h; injection h with h2 h3; subst h3; exact ⟨fun u hu => by simpa using hu, by simp; omega⟩
theorem send_told {m x1 : Chan} {t v : Int} {told : List Int} {b1 b2 : Bool} (h : m.send t v = (x1, told, b1, b2)) : (∀ u ∈ told, u ∈ m.threads) ∧ told.length ≤ 1 ∧ (b1 = false → told = []) := by
 rw [Chan.send] at h
 split at h
 · split at h
   · rename_i hg
     simp only [Prod.mk.injEq] at h
     obtain ⟨_, rfl, rfl, _⟩ := h
     refine ⟨fun u hu => ?_, by simp, fun e => by cases e⟩
     obtain rfl := List.mem_singleton.1 hu
     exact List.mem_append_right _ (List.getElem_mem hg)
   · split at h
     · simp only [Prod.mk.injEq] at h
       obtain ⟨_, rfl, rfl, _⟩ := h
       exact ⟨fun u hu => by simp at hu, by simp, fun e => by cases e⟩
     · simp only [Prod.mk.injEq] at h
       obtain ⟨_, rfl, rfl, _⟩ := h
       exact ⟨fun u hu => by simp at hu, by simp, fun _ => rfl⟩
 · simp only [Prod.mk.injEq] at h
   obtain ⟨_, rfl, rfl, _⟩ := h
   exact ⟨fun u hu => by simp at hu, by simp, fun _ => rfl⟩
theorem get_told {m x1 : Chan} {t v c : Int} {told : List Int} {b2 : Bool} (h : m.get t = (x1, v, c, told, b2)) : (∀ u ∈ told, u ∈ m.threads) ∧ told.length ≤ 1 ∧ (c = 0 ∨ c = 1 ∨ c = 2) ∧ (c = 0 → told = []) := by
 rw [Chan.get] at h
 split at h
 · split at h
   · simp only [Prod.mk.injEq] at h
     obtain ⟨_, _, rfl, rfl, _⟩ := h
     refine ⟨fun u hu => ?_, by simp [Chan.gWho]; omega, by omega, fun e => by omega⟩
     obtain ⟨l, hl, rfl⟩ := List.mem_map.1 hu
     exact List.mem_append_left _ (List.mem_map_of_mem (List.mem_of_mem_take hl))
   · split at h
     · simp only [Prod.mk.injEq] at h
       obtain ⟨_, _, rfl, rfl, _⟩ := h
       exact ⟨fun u hu => by simp at hu, by simp, by omega, fun _ => rfl⟩
     · simp only [Prod.mk.injEq] at h
       obtain ⟨_, _, rfl, rfl, _⟩ := h
       exact ⟨fun u hu => by simp at hu, by simp, by omega, fun _ => rfl⟩
 · simp only [Prod.mk.injEq] at h
   obtain ⟨_, _, rfl, rfl, _⟩ := h
   exact ⟨fun u hu => by simp at hu, by simp, by omega, fun _ => rfl⟩
theorem close_told {m x1 : Chan} {told : List Int} {b2 : Bool} (hv : m.Valid) (h : m.close = (x1, told, b2)) : (∀ u ∈ told, u ∈ m.threads) ∧ told.length ≤ 6 := by
 have hl := hv.len
 rw [Chan.close] at h
 split at h
 · simp only [Prod.mk.injEq] at h
   obtain ⟨_, rfl, _⟩ := h
   exact ⟨fun u hu => List.mem_append_right _ hu, by omega⟩
 · simp only [Prod.mk.injEq] at h
   obtain ⟨_, rfl, _⟩ := h
   exact ⟨fun u hu => by simp at hu, by simp⟩
theorem Chan.Valid.small {m : Chan} (hv : m.Valid) : m.small := by
 have := hv.len
 exact ⟨by omega, by omega, by omega⟩
theorem Rdy.owner {p : Prog} {s : State} {k : Nat} {ops : List Op} {a st : Int} {op : Op} (r : Rdy p s k ops a st op) {x : Once} (hx : s.onces[op.on.toNat]? = some x) (hi : ((op.on.toNat : Nat) : Int) = op.on) (h2 : st = 2) : x.state = 1 ∧ x.owner = k := by
 have hown : ofKey (owners s) k = [op.on] := by
   rcases r.ow with ⟨e, _⟩ | ⟨_, _, e⟩
   · omega
   · exact e
 have hm : op.on ∈ ofKey (owners s) k := by rw [hown]; simp
 obtain ⟨j, y, hy, h1, h2, h3⟩ := owners_mem.1 hm
 have e : op.on.toNat = j := by omega
 rw [← e, hx] at hy
 injection hy with hy
 subst hy
 exact ⟨h1, h2⟩
theorem Rdy.stranger {p : Prog} {s : State} {k : Nat} {ops : List Op} {a st : Int} {op : Op} (r : Rdy p s k ops a st op) {x : Once} (hx : s.onces[op.on.toNat]? = some x) (h2 : st ≠ 2) : x.state = 1 → x.owner ≠ k := by
 intro h1 he
 have hown : ofKey (owners s) k = [] := by
   rcases r.ow with ⟨_, e⟩ | ⟨e, _⟩
   · exact e
   · exact (h2 e).elim
 have : ((op.on.toNat : Nat) : Int) ∈ ofKey (owners s) k := owners_mem.2 ⟨_, x, hx, h1, he, rfl⟩
 rw [hown] at this
 cases this
set_option maxHeartbeats 4000000 in
set_option maxRecDepth 100000 in
theorem readyS_c (s : StateH) (w : World) (h : At w [fR (stateO s)]) (hb : s.status.length ≤ 1048576) :
   Calls Tryz.prog 75 #[stateV s] w (Ret w fun v L => ∃ y : Sl, v = y.val (readyM s.pure).length ∧ L = [own y 3 cInt 1 (readyM s.pure)]) := by
 refine calls1 Tryz.func75 rfl tabOk w _ rfl _ rfl _ h ⟨rfl, rfl, trivial⟩ _ (by decide) ?_
 refine AllSl.mk fun y0 => ?_
 refine LoopW.mk ⟨{ q : Nat × Sl × List Int // q.1 ≤ s.status.length ∧ q.2.2 = evL evReady 0 (s.status.take q.1) ∧ (q.1 = 0 ∨ s.fault = 0) },
   fun q => .mk [(1, .p 0 0), (3, .v (q.1.2.1.val q.1.2.2.length)), (4, .v (.int .i64 (q.1.1 : Int)))] 1 0 [(0, 30, 9)] [((0, 1), .v (s.h1.val s.status.length)), ((0, 8), .v (.int .i64 s.fault))] [own q.1.2.1 3 cInt 1 q.1.2.2, fR (stateO s)],
   fun q => s.status.length - q.1.1, ⟨(0, y0, []), Nat.zero_le _, rfl, .inl rfl⟩, ?_, ?_⟩
 · exact weak_mk [0, 1] zw2 zw0 zw2 zw5 zw4 rfl rfl
 rintro ⟨⟨k, y, xs⟩, hk, hx, hkf⟩
 simp only at hk hx hkf
 have hend : s.status.length ≤ k ∨ ¬ s.fault = 0 → readyM s.pure = xs := fun hn => by
   by_cases f0 : s.fault = 0
   · rw [readyM, if_pos (show s.pure.fault = 0 from f0), hx, List.take_of_length_le (hn.resolve_right fun h => h f0)]; rfl
   · rw [readyM, if_neg (show ¬ s.pure.fault = 0 from f0), hx, hkf.resolve_right f0]; rfl
 apply CaseB.mk <;> intro g
 · have hlt : k < s.status.length := by simpa using g
   apply CaseB.mk <;> intro g
   · have f0 : s.fault = 0 := by simpa using g
     have hw := e_succ k _ hlt (by omega)
     have hsucc := evL_succ evReady s.status hlt
     have hl : xs.length ≤ 1048576 := by have := readyL_len (s.status.take k); rw [← hx] at this; simp at this; omega
     refine stop_idx encInt tabOk rfl rfl rfl rfl rfl ⟨rfl, rfl⟩ (rdVia 1 rfl (.ofR (stateO_status s))) k rfl z38 (fun ad => ?_)
     refine CaseB.mk (fun g => ?_) (fun g0 => ?_)
     · have c : s.status[k] = 0 ∨ s.status[k] = 2 := .inl z91
       refine AllSl.mk fun b => ?_
       refine stop_app encInt 1 tabOk (ys := [(k : Int)]) rfl rfl rfl rfl rfl rfl rfl rfl rfl (by decide) ⟨rfl, rfl⟩ rfl z30 z38 z38 (fun z => ?_)
       refine ⟨⟨(k + 1, z, xs ++ [(k : Int)]), by omega, by simp only [hsucc, evReady, if_pos c, hx], .inr f0⟩, ?_, by simp only; omega⟩
       exact weak_mk [0, 2] zw1 zw0 zw1 zw5 zw3 rfl rfl
     have n0 : ¬ s.status[k] = 0 := by simpa using g0
     refine stop_idx encInt tabOk rfl rfl rfl rfl rfl ⟨rfl, rfl⟩ (rdVia 1 rfl (.ofR (stateO_status s))) k rfl z38 (fun ad2 => ?_)
     apply CaseB.mk <;> intro g
     · have c : s.status[k] = 0 ∨ s.status[k] = 2 := .inr z91
       refine AllSl.mk fun b => ?_
       refine stop_app encInt 1 tabOk (ys := [(k : Int)]) rfl rfl rfl rfl rfl rfl rfl rfl rfl (by decide) ⟨rfl, rfl⟩ rfl z30 z38 z38 (fun z => ?_)
       refine ⟨⟨(k + 1, z, xs ++ [(k : Int)]), by omega, by simp only [hsucc, evReady, if_pos c, hx], .inr f0⟩, ?_, by simp only; omega⟩
       exact weak_mk [0, 2] zw1 zw0 zw1 zw5 zw3 rfl rfl
     have n2 : ¬ s.status[k] = 2 := by simpa using g
     refine ⟨⟨(k + 1, y, xs), by omega, by simp only [hsucc, evReady, if_neg (show ¬ (s.status[k] = 0 ∨ s.status[k] = 2) from fun h => h.elim n0 n2), hx, List.append_nil], .inr f0⟩, ?_, by simp only; omega⟩
     exact weak_mk [0, 1] zw1 zw0 zw1 zw5 zw3 rfl rfl
   · have f0 : ¬ s.fault = 0 := by simpa using g
     rw [hend (.inr f0)]
     exact retw [0] ⟨y, rfl, rfl⟩ z133 rfl ⟨rfl, trivial⟩ (fun _ => rfl)
 have hge : s.status.length ≤ k := by simpa using g
 rw [hend (.inl hge)]
 exact retw [0] ⟨y, rfl, rfl⟩ z133 rfl ⟨rfl, trivial⟩ (fun _ => rfl)
def ReadyAns (p : Prog) (s : State) (v : Value) (L : List Fct) : Prop := ∃ (y : Sl) (xs : List Int), v = y.val xs.length ∧ (Fits p s → xs = readyM s) ∧ (¬ Fits p s → xs = []) ∧ L = [own y 3 cInt 1 xs]
set_option maxHeartbeats 4000000 in
set_option maxRecDepth 100000 in
theorem readyThreads_c (p : ProgH) (s : StateH) (w : World) (h : At w [fR (progO p), fR (stateO s)]) (hp : p.pure.small20) (hs : s.pure.small20) :
   Calls Tryz.prog 28 #[progV p, stateV s] w (Ret w (ReadyAns p.pure s.pure)) := by
 have hb : s.status.length ≤ 1048576 := hs.2.1
 refine calls2 Tryz.func28 rfl tabOk w _ rfl _ rfl _ h ⟨rfl, rfl, rfl, rfl, trivial⟩ _ _ (by decide) ?_
 refine stop_call _ cl18 rfl rfl rfl rfl ⟨rfl, rfl⟩ (fun A w hW => stateFits_c p s w ⟨hW.get 0 rfl (.refl _), hW.get 1 rfl (.refl _), trivial⟩ hp hs) ?_
 rintro v L ⟨b, rfl, hbb, rfl⟩
 apply CaseB.mk <;> intro g
 · have n : ¬ Fits p.pure s.pure := fun e => by rw [hbb.2 e] at g; cases g
   exact retw [90] ⟨⟨none, 0⟩, [], rfl, fun e => (n e).elim, fun _ => rfl, rfl⟩ z120 rfl ⟨rfl, trivial⟩ (fun _ => rfl)
 have ft := hbb.1 z91
 refine stop_call _ cl72 rfl rfl rfl rfl ⟨rfl, rfl⟩ (fun A w hW => ready_c s w ⟨hW.get 1 rfl (.refl _), trivial⟩ hb) ?_
 rintro v L ⟨y, rfl, rfl⟩
 exact retw [0] ⟨y, _, rfl, fun _ => rfl, fun e => (e ft).elim, rfl⟩ z133 rfl ⟨rfl, trivial⟩ (fun _ => rfl)
set_option maxHeartbeats 4000000 in
set_option maxRecDepth 100000 in
theorem readyThreadsS_c (p : ProgH) (s : StateH) (w : World) (h : At w [fR (progO p), fR (stateO s)]) (hp : p.pure.small20) (hs : s.pure.small20) :
   Calls Tryz.prog 31 #[progV p, stateV s] w (Ret w (ReadyAns p.pure s.pure)) := by
 have hb : s.status.length ≤ 1048576 := hs.2.1
 refine calls2 Tryz.func31 rfl tabOk w _ rfl _ rfl _ h ⟨rfl, rfl, rfl, rfl, trivial⟩ _ _ (by decide) ?_
 refine stop_call _ cl19 rfl rfl rfl rfl ⟨rfl, rfl⟩ (fun A w hW => stateFitsS_c p s w ⟨hW.get 0 rfl (.refl _), hW.get 1 rfl (.refl _), trivial⟩ hp hs) ?_
 rintro v L ⟨b, rfl, hbb, rfl⟩
 apply CaseB.mk <;> intro g
 · have n : ¬ Fits p.pure s.pure := fun e => by rw [hbb.2 e] at g; cases g
   refine AllSl.mk fun y0 => ?_
   exact retw [0] ⟨y0, [], rfl, fun e => (n e).elim, fun _ => rfl, rfl⟩ z133 rfl ⟨rfl, trivial⟩ (fun _ => rfl)
 have ft := hbb.1 z91
 refine stop_call _ cl75 rfl rfl rfl rfl ⟨rfl, rfl⟩ (fun A w hW => readyS_c s w ⟨hW.get 1 rfl (.refl _), trivial⟩ hb) ?_
 rintro v L ⟨y, rfl, rfl⟩
 exact retw [0] ⟨y, _, rfl, fun _ => rfl, fun e => (e ft).elim, rfl⟩ z133 rfl ⟨rfl, trivial⟩ (fun _ => rfl)
theorem onM_eq (p : Prog) : ∀ (who : List Int) (s s' : State), s'.places = s.places → s'.status = s.status → onM p who s' = { s' with places := (onM p who s).places, status := (onM p who s).status }
 | [], s, s', e1, e2 => by cases s'; simp only [onM, List.foldl_nil] at *; simp [e1, e2]
 | x :: r, s, s', e1, e2 => by
   have h := onM_eq p r (goM p s x) (goM p s' x) (by simp only [goM, e1]) (by simp only [goM, e1, e2])
   have e : ∀ s, onM p (x :: r) s = onM p r (goM p s x) := fun _ => rfl
   rw [e, e, h]; rfl
theorem eitherM_eq (p : Prog) (s s' : State) (t : Int) (b : Bool) (e1 : s'.places = s.places) (e2 : s'.status = s.status) : eitherM p s' t b = { s' with places := (eitherM p s t b).places, status := (eitherM p s t b).status } := by
 unfold eitherM
 split
 · exact onM_eq p [t] s s' e1 e2
 · simp only [waitM, e1, e2]
theorem onM_app (p : Prog) (a b : List Int) (s : State) : onM p (a ++ b) s = onM p b (onM p a s) := List.foldl_append
theorem outIn {Zs : List Fct} {y : StateH} (k0 k1 k2 k3 k4 k5 k6 k7 : Nat) (e0 : Zs[k0]? = some (own y.h0 3 cInt 1 y.places)) (e1 : Zs[k1]? = some (own y.h1 3 cInt 1 y.status)) (e2 : Zs[k2]? = some (own y.h2 57 cSemH 3 y.sems)) (e3 : Zs[k3]? = some (own y.h3 70 cOnceH 4 y.onces)) (e4 : Zs[k4]? = some (own y.h4 74 cGroupH 2 y.groups)) (e5 : Zs[k5]? = some (own y.h5 65 cBarrierH 3 y.barriers)) (e6 : Zs[k6]? = some (own y.h6 80 cChanH 5 y.chans)) (e7 : Zs[k7]? = some (own y.h7 3 cInt 1 y.said)) : ∀ g ∈ outerO y, g ∈ Zs := by
 intro g hg
 simp only [outerO, List.mem_cons, List.not_mem_nil, or_false] at hg
 rcases hg with rfl | rfl | rfl | rfl | rfl | rfl | rfl | rfl
 · exact List.mem_of_getElem? e0
 · exact List.mem_of_getElem? e1
 · exact List.mem_of_getElem? e2
 · exact List.mem_of_getElem? e3
 · exact List.mem_of_getElem? e4
 · exact List.mem_of_getElem? e5
 · exact List.mem_of_getElem? e6
 · exact List.mem_of_getElem? e7
theorem eitherM_len (p : Prog) (s : State) (t : Int) (b : Bool) : (eitherM p s t b).places.length = s.places.length ∧ (eitherM p s t b).status.length = s.status.length := by
 unfold eitherM
 split
 · exact onM_len p [t] s
 · simp [waitM]
set_option maxHeartbeats 100000000 in
set_option maxRecDepth 100000 in
theorem stepThread_c (p : ProgH) (s : StateH) (t : Int) (w : World) (h : At w [fR (progO p), fR (stateO s)]) (hp : p.pure.small20) (hs : s.pure.small20) :
   Calls Tryz.prog 35 #[progV p, stateV s, .int .i64 t] w (Ret w (StepR p.pure s.pure t)) := by
 have hb : s.status.length ≤ 1048576 := hs.2.1
 refine calls3 Tryz.func35 rfl tabOk w _ rfl _ rfl _ h ⟨rfl, rfl, rfl, rfl, trivial⟩ _ _ _ (by decide) ?_
 refine stop_call _ cl18 rfl rfl rfl rfl ⟨rfl, rfl⟩ (fun A w hW => stateFits_c p s w ⟨hW.get 0 rfl (.refl _), hW.get 1 rfl (.refl _), trivial⟩ hp hs) ?_
 rintro v L ⟨b, rfl, hbb, rfl⟩
 apply CaseB.mk <;> intro g
 · have n : ¬ StepOk p.pure s.pure t := fun e => by rw [hbb.2 e.1] at g; cases g
   refine ret_shift (.joinO [90] (Gs := [_]) ⟨.inr ⟨Nat.le_of_ble_eq_true rfl, zero_nil⟩, trivial⟩ rfl (G := stateO StateH.zero) (.of_eq (by simp))) ?_
   exact retw [0] ⟨StateH.zero, false, rfl, tno n, fun e => z98, fun _ => rfl, rfl⟩ z133 rfl ⟨rfl, trivial⟩ (fun _ => rfl)
 have ft := hbb.1 z91
 refine stop_call _ cl72 rfl rfl rfl rfl ⟨rfl, rfl⟩ (fun A w hW => ready_c s w ⟨hW.get 1 rfl (.refl _), trivial⟩ hb) ?_
 rintro v L ⟨yr, rfl, rfl⟩
 have hrl : (readyM s.pure).length ≤ 1048576 := by
   rw [readyM]; split
   · exact Nat.le_trans (readyL_len _) hb
   · simp
 refine stop_call _ cl78 rfl rfl rfl rfl ⟨rfl, rfl⟩ (fun A w hW => contains_c yr (readyM s.pure) t w ⟨z29, trivial⟩ (by omega)) ?_
 rintro v L ⟨rfl, rfl⟩
 apply CaseB.mk <;> intro g
 · have n : ¬ StepOk p.pure s.pure t := fun e => by have := e.2.1; simp [this] at g
   refine ret_shift (.joinO [90] (Gs := [_]) ⟨.inr ⟨Nat.le_of_ble_eq_true rfl, zero_nil⟩, trivial⟩ rfl (G := stateO StateH.zero) (.of_eq (by simp))) ?_
   exact retw [0] ⟨StateH.zero, false, rfl, tno n, fun e => z98, fun _ => rfl, rfl⟩ z133 rfl ⟨rfl, trivial⟩ (fun _ => rfl)
 have hm : t ∈ readyM s.pure := by simpa using g
 obtain ⟨k, ops, a, st, op, rfl, r⟩ := rdy ft hm
 have lt : p.pure.threads.length = p.threads.length := by simp [ProgH.pure]
 have hkt : k < p.threads.length := by rw [← lt]; exact r.kn
 have hks : k < s.status.length := (List.getElem?_eq_some_iff.1 r.h3).1
 have hkp : k < s.places.length := (List.getElem?_eq_some_iff.1 r.h2).1
 have hth : (p.threads[k]).m = ops := by have := r.h1; simp only [ProgH.pure, List.getElem?_map, List.getElem?_eq_getElem hkt, Option.map_some, Option.some.injEq] at this; exact this
 have hpl : s.places[k] = a := (List.getElem?_eq_some_iff.1 r.h2).2
 have hz : s.places[k] = ((s.places[k]).toNat : Int) := by have := r.a0; rw [hpl]; omega
 have hlo : (s.places[k]).toNat < (p.threads[k]).m.length := by rw [hth, hpl]; exact (List.getElem?_eq_some_iff.1 r.ho).1
 have hopg : (p.threads[k]).m[(s.places[k]).toNat] = op := by
   have := r.ho
   rw [← hth, ← hpl] at this
   exact (List.getElem?_eq_some_iff.1 this).2
 have n4 : p.threads.length ≤ 4 := by rw [← lt]; exact ft.prog.n4
 refine draw_start tabOk z95 z95 z95 200 [((0, 0), .v (p.h0.val p.sems.length)), ((0, 1), .v (p.h1.val p.groups.length)), ((0, 2), .v (p.h2.val p.barriers.length)), ((0, 3), .v (p.h3.val p.rooms.length)), ((0, 4), .v (p.h4.val p.threads.length)), ((1, 0), .v (s.h0.val s.places.length)), ((1, 1), .v (s.h1.val s.status.length)), ((1, 2), .v (s.h2.val s.sems.length)), ((1, 3), .v (s.h3.val s.onces.length)), ((1, 4), .v (s.h4.val s.groups.length)), ((1, 5), .v (s.h5.val s.barriers.length)), ((1, 6), .v (s.h6.val s.chans.length)), ((1, 7), .v (s.h7.val s.said.length)), ((1, 8), .v (.int .i64 s.fault))] [] [] z99 z103 trivial rfl ?_
 refine d_call _ cl79 rfl rfl rfl rfl ⟨rfl, rfl⟩ (fun A w hW => stateClone_c s w ⟨hW.get 2 rfl (.refl _), trivial⟩ hs) ?_
 rintro v L ⟨y, rfl, hy, rfl⟩
 have hy0 : y.places = s.places := congrArg State.places hy
 have hy1 : y.status = s.status := congrArg State.status hy
 have hy2 : y.sems.map (·.m) = s.sems.map (·.m) := congrArg State.sems hy
 have hy3 : y.onces.map (·.m) = s.onces.map (·.m) := congrArg State.onces hy
 have hy4 : y.groups.map (·.m) = s.groups.map (·.m) := congrArg State.groups hy
 have hy5 : y.barriers.map (·.m) = s.barriers.map (·.m) := congrArg State.barriers hy
 have hy6 : y.chans.map (·.m) = s.chans.map (·.m) := congrArg State.chans hy
 have hy7 : y.said = s.said := congrArg State.said hy
 have hnp : s.places.length = p.threads.length := by rw [← lt]; exact ft.np
 have hns : s.status.length = p.threads.length := by rw [← lt]; exact ft.ns
 have hnm : y.places.length = y.status.length := by rw [hy0, hy1, hnp, hns]
 have hn : p.threads.length = y.places.length := by rw [hy0, hnp]
 have hn4 : y.places.length ≤ 100 := by omega
 have hkn : 0 ≤ (k : Int) ∧ (k : Int) < (y.places.length : Int) := by omega
 have hw1 : ∀ x ∈ [(k : Int)], 0 ≤ x ∧ x < (y.places.length : Int) := fun x hx => by simp at hx; rw [hx]; exact hkn
 have hsd : y.said.length ≤ 64 := by rw [hy7]; exact ft.lsaid
 have hp0 : ∀ a ∈ y.pure.places, 0 ≤ a ∧ a ≤ 20 := by
   rw [hy]
   intro x hx
   obtain ⟨u, hu, rfl⟩ := List.getElem_of_mem hx
   have hu2 : u < p.pure.threads.length := by rw [← ft.np]; exact hu
   obtain ⟨c0, c1, _⟩ := ft.threads u _ _ _ (List.getElem?_eq_getElem hu2) (List.getElem?_eq_getElem hu) (List.getElem?_eq_getElem (by rw [ft.ns]; exact hu2))
   have := (ft.prog.ops _ (List.getElem_mem hu2)).1
   exact ⟨c0, by omega⟩
 have hpA : ∀ a ∈ y.pure.places, 0 ≤ a ∧ a ≤ 100 := fun x hx => by have := hp0 x hx; omega
 refine d_box rfl ⟨rfl, rfl⟩ rfl rfl ?_
 conv => whnf
 apply draw_shift
 · exact Shift.read 2 (f := fR (progO p)) (g := slo p.h4 cOpSH 1 p.threads) rfl rfl rfl rfl (.trans (.R_R (progO_threads p)) (.ofR nest_h))
 apply draw_shift
 · exact Shift.splitO 1 (L := outerO y) (G := stateO y) (G' := innerO y) rfl (stateO_perm y)
 refine draw_start tabOk z95 z95 z95 200 [((0, 4), .v (p.h4.val p.threads.length)), ((1, 0), .v (s.h0.val s.places.length))] [11, 12] [_, _] z124 z134 ⟨rfl, rfl, trivial⟩ rfl ?_
 refine d_idx (ti := tiOf tab) encOpSH tabOk rfl rfl rfl rfl rfl ⟨rfl, rfl⟩ (rdVia 0 rfl (.trans (.R_R (progO_threads p)) (.ofR nest_h))) k rfl z38 (fun ad1 => ?_)
 refine d_idx (ti := tiOf tab) encInt tabOk rfl rfl rfl rfl rfl ⟨rfl, rfl⟩ (rdVia 1 rfl (.ofR (stateO_places s))) k rfl z38 (fun ad2 => ?_)
 refine d_idx (ti := tiOf tab) encOp tabOk rfl rfl rfl rfl rfl ⟨rfl, rfl⟩ (rdVia 0 rfl (.trans (.R_R (progO_threads p)) (.ofR (threadsO_0 _ _ k hkt)))) (s.places[k]).toNat hz z38 (fun ad3 => ?_)
 rw [hopg]
 have hdm : doM p.pure s.pure k = doOp p.pure s.pure k op := by rw [doM, r.at_]
 have hso : StepOk p.pure s.pure k ↔ (doM p.pure s.pure k).said.length ≤ 64 ∧ ¬ Worn p.pure s.pure k := by
   rw [stepOk_iff]; exact ⟨fun e => e.2.2, fun e => ⟨ft, hm, e⟩⟩
 have hwn : op.kind ≠ 7 → ¬ Worn p.pure s.pure k := fun hk hw => by rw [Worn, r.at_] at hw; exact hk hw.1
 refine CaseB.mk (fun g => ?_) (fun g1 => ?_)
 · have k1 : op.kind = 1 := by simpa using g
   refine stop_callPG _ [7] (G := [_]) cl81 rfl rfl rfl rfl ⟨rfl, rfl⟩ rfl rfl ⟨rfl, trivial⟩ ⟨rfl, rfl, trivial⟩ (fun A w ga hga hW hblk => (say_c ga _ _ p y y.h7 y.said false op.arg w hblk (hW.atG [7] (G := [_]) ⟨rfl, trivial⟩ rfl ⟨rfl, rfl, trivial⟩ [] (Fo := []) trivial rfl) (hW.atG_off z96 hga (ix := [7]) (G := [_]) ⟨rfl, trivial⟩ (jx := []) (Fo := []) trivial) (by omega))) ?_
   rintro v cs L ⟨rfl, z9, rfl, rfl⟩
   refine AllSl.mk fun zt => ?_
   refine stop_callPG _ [2, 3] (G := [_, _]) cl82 rfl rfl rfl rfl ⟨rfl, rfl⟩ rfl rfl ⟨rfl, rfl, trivial⟩ ⟨rfl, rfl, rfl, rfl, trivial⟩ (fun A w ga hga hW hblk => (goOn_c ga _ _ p y _ _ zt [(k : Int)] (y.pure) w hblk (hW.atG [2, 3] (G := [_, _]) ⟨rfl, rfl, trivial⟩ rfl ⟨rfl, rfl, rfl, rfl, trivial⟩ [10, 0] (Fo := [_, _]) z131 rfl) (hW.atG_off z96 hga (ix := [2, 3]) (G := [_, _]) ⟨rfl, rfl, trivial⟩ (jx := [10, 0]) (Fo := [_, _]) z131) rfl rfl hnm hn hw1 (by simp) hpA hn4)) ?_
   rintro v cs L ⟨rfl, rfl, rfl⟩
   have hlp : (onM p.pure [(k : Int)] (y.pure)).places.length = y.places.length := ((onM_len _ _ _).1.trans rfl)
   have hls : (onM p.pure [(k : Int)] (y.pure)).status.length = y.status.length := ((onM_len _ _ _).2.trans rfl)
   apply CaseB.mk <;> intro g
   · have hf : 64 ≤ y.said.length := by simpa using g
     have n : ¬ StepOk p.pure s.pure k := fun e => by
       have h := (hso.1 e).1
       rw [hdm, doOp, if_pos k1, onM_said] at h
       have h' : (s.said ++ [op.arg]).length ≤ 64 := h
       rw [← hy7] at h'
       simp at h'
       omega
     refine ret_shift (.joinO [90] (Gs := [_]) ⟨.inr ⟨Nat.le_of_ble_eq_true rfl, zero_nil⟩, trivial⟩ rfl (G := stateO StateH.zero) (.of_eq (by simp))) ?_
     exact retw [0] ⟨StateH.zero, false, rfl, tno n, fun e => z98, fun _ => rfl, rfl⟩ z133 rfl ⟨rfl, trivial⟩ (fun _ => rfl)
   have hf : ¬ 64 ≤ y.said.length := by simpa using g
   obtain ⟨y9, hy9⟩ : ∃ y9 : StateH, y9 = ⟨(onM p.pure [(k : Int)] (y.pure)).places, (onM p.pure [(k : Int)] (y.pure)).status, y.sems, y.onces, y.groups, y.barriers, y.chans, (saidM y.said op.arg), y.fault, y.h0, y.h1, y.h2, y.h3, y.h4, y.h5, y.h6, z9⟩ := ⟨_, rfl⟩
   have hP : y9.pure = doM p.pure s.pure k := by
     rw [hdm, doOp, if_pos k1, ← hy, onM_eq p.pure [(k : Int)] y.pure (sayM y.pure op.arg) rfl rfl, hy9]
     simp only [saidM, if_neg hf]
     rfl
   have h64 : (doM p.pure s.pure k).said.length ≤ 64 := by
     rw [← hP, hy9]
     show (saidM y.said op.arg).length ≤ 64
     rw [saidM, if_neg hf]
     simp; omega
   have hok : StepOk p.pure s.pure k := hso.2 ⟨h64, hwn (by omega)⟩
   have hsm : y9.pure.small20 := by rw [hP]; exact hok.2.2.2.small
   have hv : stateV y9 = .agg #[y.h0.val y.places.length, y.h1.val y.status.length, y.h2.val y.sems.length, y.h3.val y.onces.length, y.h4.val y.groups.length, y.h5.val y.barriers.length, y.h6.val y.chans.length, (z9).val ((saidM y.said op.arg)).length, .int .i64 y.fault] := by
     rw [hy9]; simp only [stateV, hlp, hls]
   have hcl := fun w h => stateClone_c y9 w h hsm
   rw [hv] at hcl
   refine stop_call _ cl79 rfl rfl rfl rfl ⟨rfl, rfl⟩ (fun A w hW => hcl w ⟨getR hW (stateR y9 (by rw [hy9]; exact outIn 0 1 4 5 6 7 8 3 rfl rfl rfl rfl rfl rfl rfl rfl) (by rw [hy9]; exact fun g hg => inO 9 rfl hg)), trivial⟩) ?_
   rintro v L ⟨y3, rfl, hy3, rfl⟩
   exact retw [0] ⟨y3, true, rfl, tyes hok, fun _ => hy3.trans hP, fun e => z98, rfl⟩ z133 rfl ⟨rfl, trivial⟩ (fun _ => rfl)
 refine CaseB.mk (fun g => ?_) (fun g2 => ?_)
 · have hk : op.kind = 2 := by simpa using g
   obtain ⟨x, hx, hxa, ok, a1, a2, hi⟩ := r.sem (.inl hk)
   have hil : op.on.toNat < s.sems.length := by have := (List.getElem?_eq_some_iff.1 hx).1; simpa [StateH.pure] using this
   have hxe : (s.sems[op.on.toNat]'hil).m = x := by have := hx; simp only [StateH.pure, List.getElem?_map, List.getElem?_eq_getElem hil, Option.map_some, Option.some.injEq] at this; exact this
   subst hxe
   have hjl : op.on.toNat < y.sems.length := by have := congrArg List.length hy2; simp at this; omega
   have hnq := fun u (h : ofKey (events s.pure) u = []) => (swap_sems hx (s.sems[op.on.toNat]).m).none h
   have hD : doM p.pure s.pure k = doAcquire p.pure s.pure k op := by rw [hdm, doOp, if_neg (by omega), if_pos hk]
   have hq := ofKey_map_nil.1 (hnq _ r.ev)
   obtain ⟨x1, b1, hac⟩ : ∃ x1 b1, (s.sems[op.on.toNat]'hil).m.acquire k op.arg = (x1, b1) := ⟨_, _, rfl⟩
   refine draw_start tabOk z95 z95 z95 200 [((1, 2), .v (s.h2.val s.sems.length)), ((4, 1), .v (.int .i64 op.on)), ((4, 2), .v (.int .i64 op.arg))] [12] [_] z118 z130 ⟨rfl, trivial⟩ rfl ?_
   refine d_idx (ti := tiOf tab) encSemH tabOk rfl rfl rfl rfl rfl ⟨rfl, rfl⟩ (rdVia 0 rfl (.trans (.R_R (stateO_sems s)) (.ofR nest_h))) op.on.toNat hi.symm z38 (fun ad5 => ?_)
   refine BothW.mk ?_ ?_
   all_goals
     refine d_call _ cl83 rfl rfl rfl rfl ⟨rfl, rfl⟩ (fun A w hW => acquire_c _ _ _ _ w ⟨hW.get 12 rfl (.trans (.R_R (stateO_sems s)) (.ofR (semsO_0 _ _ op.on.toNat hil))), trivial⟩ ok r.thr hq a1 a2) ?_
     rw [hac]
     rintro v L ⟨q1, rfl, rfl⟩
     refine draw_own 3 rfl (show 0 < y.sems.length by omega) fun gg hgg _ _ => ?_
     refine draw_start tabOk z95 z95 z95 200 [((3, 7), .v (y.h2.val y.sems.length)), ((4, 1), .v (.int .i64 op.on)), ((5, 0), .v (.int .i64 (x1).free)), ((5, 1), .v (.int .i64 (x1).limit)), ((5, 2), .v (q1.val (x1).queue.length))] [] [] z108 z122 trivial rfl ?_
     refine d_idxP (ti := tiOf tab) tabOk rfl rfl rfl rfl rfl ⟨rfl, rfl⟩ hgg op.on.toNat hi.symm hjl ?_
     refine d_storeW (ti := tiOf tab) encSemH 3 tabOk rfl rfl rfl rfl rfl rfl rfl rfl hgg op.on.toNat 0 ⟨x1, q1⟩ rfl hjl rfl (cSemH ⟨x1, q1⟩) (fun _ => rfl) z68 z93 ?_
     refine stop_callPG _ [2, 3] (G := [_, _]) cl84 rfl rfl rfl rfl ⟨rfl, rfl⟩ rfl rfl ⟨rfl, rfl, trivial⟩ ⟨rfl, rfl, rfl, rfl, trivial⟩ (fun A w ga hga hW hblk => (either_c ga _ _ p y _ _ k (b1) (y.pure) w hblk (hW.atG [2, 3] (G := [_, _]) ⟨rfl, rfl, trivial⟩ rfl ⟨rfl, rfl, rfl, rfl, trivial⟩ [10] (Fo := [_]) z137 rfl) (hW.atG_off z96 hga (ix := [2, 3]) (G := [_, _]) ⟨rfl, rfl, trivial⟩ (jx := [10]) (Fo := [_]) z137) rfl rfl hnm hn hkn hpA hn4)) ?_
     rintro v cs L ⟨rfl, rfl, rfl⟩
     have hlp : (eitherM p.pure (y.pure) k (b1)).places.length = y.places.length := ((eitherM_len _ _ _ _).1.trans rfl)
     have hls : (eitherM p.pure (y.pure) k (b1)).status.length = y.status.length := ((eitherM_len _ _ _ _).2.trans rfl)
     refine CaseB.mk (fun g => by cases g) (fun _ => ?_)
     obtain ⟨y9, hy9⟩ : ∃ y9 : StateH, y9 = ⟨(eitherM p.pure (y.pure) k (b1)).places, (eitherM p.pure (y.pure) k (b1)).status, (y.sems.set op.on.toNat ⟨x1, q1⟩), y.onces, y.groups, y.barriers, y.chans, y.said, y.fault, y.h0, y.h1, y.h2, y.h3, y.h4, y.h5, y.h6, y.h7⟩ := ⟨_, rfl⟩
     have hP : y9.pure = doM p.pure s.pure k := by
       rw [hD, doAcquire, hxa, hac]
       show _ = eitherM p.pure (setSem s.pure op x1) k b1
       rw [← hy, eitherM_eq p.pure y.pure (setSem y.pure op x1) k b1 rfl rfl, hy9]
       simp only [StateH.pure, setSem, List.map_set]
     have h64 : (doM p.pure s.pure k).said.length ≤ 64 := by
       rw [← hP, hy9]
       exact hsd
     have hok : StepOk p.pure s.pure k := hso.2 ⟨h64, hwn (by omega)⟩
     have hsm : y9.pure.small20 := by rw [hP]; exact hok.2.2.2.small
     have hv : stateV y9 = .agg #[y.h0.val y.places.length, y.h1.val y.status.length, y.h2.val y.sems.length, y.h3.val y.onces.length, y.h4.val y.groups.length, y.h5.val y.barriers.length, y.h6.val y.chans.length, (y.h7).val (y.said).length, .int .i64 y.fault] := by
       rw [hy9]; simp only [stateV, hlp, hls, List.length_set]
     have hcl := fun w h => stateClone_c y9 w h hsm
     rw [hv] at hcl
     refine stop_call _ cl79 rfl rfl rfl rfl ⟨rfl, rfl⟩ (fun A w hW => hcl w ⟨getR hW (stateR y9 (by rw [hy9]; exact outIn 0 1 2 4 5 6 7 8 rfl rfl rfl rfl rfl rfl rfl rfl) (by rw [hy9]; exact fun g hg => (inner_sem hg).elim (fun h => inO 9 rfl h) (fun h => by obtain rfl := List.mem_singleton.1 h; exact inF (List.mem_of_getElem? (i := 3) rfl)))), trivial⟩) ?_
     rintro v L ⟨y3, rfl, hy3, rfl⟩
     exact retw [0] ⟨y3, true, rfl, tyes hok, fun _ => hy3.trans hP, fun e => z98, rfl⟩ z133 rfl ⟨rfl, trivial⟩ (fun _ => rfl)
 refine CaseB.mk (fun g => ?_) (fun g3 => ?_)
 · have hk : op.kind = 3 := by simpa using g
   obtain ⟨x, hx, hxa, ok, a1, a2, hi⟩ := r.sem (.inr hk)
   have hil : op.on.toNat < s.sems.length := by have := (List.getElem?_eq_some_iff.1 hx).1; simpa [StateH.pure] using this
   have hxe : (s.sems[op.on.toNat]'hil).m = x := by have := hx; simp only [StateH.pure, List.getElem?_map, List.getElem?_eq_getElem hil, Option.map_some, Option.some.injEq] at this; exact this
   subst hxe
   have hjl : op.on.toNat < y.sems.length := by have := congrArg List.length hy2; simp at this; omega
   have hnq := fun u (h : ofKey (events s.pure) u = []) => (swap_sems hx (s.sems[op.on.toNat]).m).none h
   have hD : doM p.pure s.pure k = doRelease p.pure s.pure k op := by rw [hdm, doOp, if_neg (by omega), if_neg (by omega), if_pos hk]
   rcases hres : (s.sems[op.on.toNat]'hil).m.release op.arg with _ | ⟨x1, told⟩
   · have hF : doM p.pure s.pure k = faultM s.pure 1 := by rw [hD, doRelease, hxa, hres]
     refine draw_start tabOk z95 z95 z95 200 [((1, 2), .v (s.h2.val s.sems.length)), ((4, 1), .v (.int .i64 op.on)), ((4, 2), .v (.int .i64 op.arg))] [12] [_] z118 z130 ⟨rfl, trivial⟩ rfl ?_
     refine d_idx (ti := tiOf tab) encSemH tabOk rfl rfl rfl rfl rfl ⟨rfl, rfl⟩ (rdVia 0 rfl (.trans (.R_R (stateO_sems s)) (.ofR nest_h))) op.on.toNat hi.symm z38 (fun ad5 => ?_)
     refine BothW.mk ?_ ?_
     all_goals
       refine d_call _ cl85 rfl rfl rfl rfl ⟨rfl, rfl⟩ (fun A w hW => release_c _ _ _ w ⟨hW.get 12 rfl (.trans (.R_R (stateO_sems s)) (.ofR (semsO_0 _ _ op.on.toNat hil))), trivial⟩ ok a1 a2) ?_
       rw [hres]
       rintro v L ⟨q1, z1, rfl, rfl⟩
       refine CaseB.mk (fun _ => ?_) (fun g => by simp at g)
       have hok : StepOk p.pure s.pure k := hso.2 ⟨by rw [hF]; exact ft.lsaid, hwn (by omega)⟩
       refine stop_callPGc _ [] (G := []) cl80 rfl rfl rfl rfl ⟨rfl, rfl⟩ rfl rfl trivial trivial (fun A w ga hga hW hblk => fault_c 1 ga s w hblk (hW.atG [] (G := []) trivial rfl trivial [12] (Fo := [_]) z121 rfl) (hW.atG_off z96 hga (ix := []) (G := []) trivial (jx := [12]) (Fo := [_]) z121) hs) ?_
       rintro v cs L ⟨y3, rfl, rfl, hy3, rfl⟩
       exact retw [0] ⟨y3, true, rfl, tyes hok, fun _ => hy3.trans hF.symm, fun e => z98, rfl⟩ z133 rfl ⟨rfl, trivial⟩ (fun _ => rfl)
   have htin := release_told ok a1 hres
   have htl : told.length ≤ 100 := by omega
   have htold : ∀ u ∈ told, 0 ≤ u ∧ u < (y.places.length : Int) := fun u hu => by
     have := ft.isIn fun h0 => ofKey_map_nil.1 (hnq u h0) (htin.1 u hu)
     rw [lt] at this
     omega
   refine draw_start tabOk z95 z95 z95 200 [((1, 2), .v (s.h2.val s.sems.length)), ((4, 1), .v (.int .i64 op.on)), ((4, 2), .v (.int .i64 op.arg))] [12] [_] z118 z130 ⟨rfl, trivial⟩ rfl ?_
   refine d_idx (ti := tiOf tab) encSemH tabOk rfl rfl rfl rfl rfl ⟨rfl, rfl⟩ (rdVia 0 rfl (.trans (.R_R (stateO_sems s)) (.ofR nest_h))) op.on.toNat hi.symm z38 (fun ad5 => ?_)
   refine BothW.mk ?_ ?_
   all_goals
     refine d_call _ cl85 rfl rfl rfl rfl ⟨rfl, rfl⟩ (fun A w hW => release_c _ _ _ w ⟨hW.get 12 rfl (.trans (.R_R (stateO_sems s)) (.ofR (semsO_0 _ _ op.on.toNat hil))), trivial⟩ ok a1 a2) ?_
     rw [hres]
     rintro v L ⟨q1, z1, rfl, rfl⟩
     refine CaseB.mk (fun g => by simp at g) (fun _ => ?_)
     refine draw_own 4 rfl (show 0 < y.sems.length by omega) fun gg hgg _ _ => ?_
     refine draw_start tabOk z95 z95 z95 200 [((3, 7), .v (y.h2.val y.sems.length)), ((4, 1), .v (.int .i64 op.on)), ((5, 0), .v (.int .i64 (x1).free)), ((5, 1), .v (.int .i64 (x1).limit)), ((5, 2), .v (q1.val (x1).queue.length))] [] [] z108 z122 trivial rfl ?_
     refine d_idxP (ti := tiOf tab) tabOk rfl rfl rfl rfl rfl ⟨rfl, rfl⟩ hgg op.on.toNat hi.symm hjl ?_
     refine d_storeW (ti := tiOf tab) encSemH 4 tabOk rfl rfl rfl rfl rfl rfl rfl rfl hgg op.on.toNat 0 ⟨x1, q1⟩ rfl hjl rfl (cSemH ⟨x1, q1⟩) (fun _ => rfl) z68 z93 ?_
     refine stop_callPG _ [3, 4] (G := [_, _]) cl82 rfl rfl rfl rfl ⟨rfl, rfl⟩ rfl rfl ⟨rfl, rfl, trivial⟩ ⟨rfl, rfl, rfl, rfl, trivial⟩ (fun A w ga hga hW hblk => (goOn_c ga _ _ p y _ _ _ told (y.pure) w hblk (hW.atG [3, 4] (G := [_, _]) ⟨rfl, rfl, trivial⟩ rfl ⟨rfl, rfl, rfl, rfl, trivial⟩ [11, 2] (Fo := [_, _]) z131 rfl) (hW.atG_off z96 hga (ix := [3, 4]) (G := [_, _]) ⟨rfl, rfl, trivial⟩ (jx := [11, 2]) (Fo := [_, _]) z131) rfl rfl hnm hn htold htl hpA hn4)) ?_
     rintro v cs L ⟨rfl, rfl, rfl⟩
     refine AllSl.mk fun zt => ?_
     refine stop_callPG _ [1, 2] (G := [_, _]) cl82 rfl rfl rfl rfl ⟨rfl, rfl⟩ rfl rfl ⟨rfl, rfl, trivial⟩ ⟨rfl, rfl, rfl, rfl, trivial⟩ (fun A w ga hga hW hblk => (goOn_c ga _ _ p y _ _ zt [(k : Int)] (onM p.pure told (y.pure)) w hblk (hW.atG [1, 2] (G := [_, _]) ⟨rfl, rfl, trivial⟩ rfl ⟨rfl, rfl, rfl, rfl, trivial⟩ [12, 0] (Fo := [_, _]) z131 rfl) (hW.atG_off z96 hga (ix := [1, 2]) (G := [_, _]) ⟨rfl, rfl, trivial⟩ (jx := [12, 0]) (Fo := [_, _]) z131) ((onM_len _ _ _).1.trans rfl) ((onM_len _ _ _).2.trans rfl) hnm hn hw1 (by simp) (fun x hx => by have := onM_bound p.pure told y.pure 20 (by omega) hp0 x hx; omega) hn4)) ?_
     rintro v cs L ⟨rfl, rfl, rfl⟩
     have hlp : (onM p.pure [(k : Int)] (onM p.pure told (y.pure))).places.length = y.places.length := ((onM_len _ _ _).1.trans ((onM_len _ _ _).1.trans rfl))
     have hls : (onM p.pure [(k : Int)] (onM p.pure told (y.pure))).status.length = y.status.length := ((onM_len _ _ _).2.trans ((onM_len _ _ _).2.trans rfl))
     refine CaseB.mk (fun g => by cases g) (fun _ => ?_)
     obtain ⟨y9, hy9⟩ : ∃ y9 : StateH, y9 = ⟨(onM p.pure [(k : Int)] (onM p.pure told (y.pure))).places, (onM p.pure [(k : Int)] (onM p.pure told (y.pure))).status, (y.sems.set op.on.toNat ⟨x1, q1⟩), y.onces, y.groups, y.barriers, y.chans, y.said, y.fault, y.h0, y.h1, y.h2, y.h3, y.h4, y.h5, y.h6, y.h7⟩ := ⟨_, rfl⟩
     have hP : y9.pure = doM p.pure s.pure k := by
       rw [hD, doRelease, hxa, hres]
       show _ = onM p.pure (told ++ [(k : Int)]) (setSem s.pure op x1)
       rw [← hy, onM_eq p.pure (told ++ [(k : Int)]) y.pure (setSem y.pure op x1) rfl rfl, onM_app, hy9]
       simp only [StateH.pure, setSem, List.map_set]
     have h64 : (doM p.pure s.pure k).said.length ≤ 64 := by
       rw [← hP, hy9]
       exact hsd
     have hok : StepOk p.pure s.pure k := hso.2 ⟨h64, hwn (by omega)⟩
     have hsm : y9.pure.small20 := by rw [hP]; exact hok.2.2.2.small
     have hv : stateV y9 = .agg #[y.h0.val y.places.length, y.h1.val y.status.length, y.h2.val y.sems.length, y.h3.val y.onces.length, y.h4.val y.groups.length, y.h5.val y.barriers.length, y.h6.val y.chans.length, (y.h7).val (y.said).length, .int .i64 y.fault] := by
       rw [hy9]; simp only [stateV, hlp, hls, List.length_set]
     have hcl := fun w h => stateClone_c y9 w h hsm
     rw [hv] at hcl
     refine stop_call _ cl79 rfl rfl rfl rfl ⟨rfl, rfl⟩ (fun A w hW => hcl w ⟨getR hW (stateR y9 (by rw [hy9]; exact outIn 0 1 3 6 7 8 9 10 rfl rfl rfl rfl rfl rfl rfl rfl) (by rw [hy9]; exact fun g hg => (inner_sem hg).elim (fun h => inO 11 rfl h) (fun h => by obtain rfl := List.mem_singleton.1 h; exact inF (List.mem_of_getElem? (i := 4) rfl)))), trivial⟩) ?_
     rintro v L ⟨y3, rfl, hy3, rfl⟩
     exact retw [0] ⟨y3, true, rfl, tyes hok, fun _ => hy3.trans hP, fun e => z98, rfl⟩ z133 rfl ⟨rfl, trivial⟩ (fun _ => rfl)
 refine CaseB.mk (fun g => ?_) (fun g4 => ?_)
 · have hk : op.kind = 4 := by simpa using g
   obtain ⟨x, hx, hxa, ok, hval, hi⟩ := r.once hk
   have hil : op.on.toNat < s.onces.length := by have := (List.getElem?_eq_some_iff.1 hx).1; simpa [StateH.pure] using this
   have hxe : (s.onces[op.on.toNat]'hil).m = x := by have := hx; simp only [StateH.pure, List.getElem?_map, List.getElem?_eq_getElem hil, Option.map_some, Option.some.injEq] at this; exact this
   subst hxe
   have hjl : op.on.toNat < y.onces.length := by have := congrArg List.length hy3; simp at this; omega
   have hnq := fun u (h : ofKey (events s.pure) u = []) => (swap_onces hx (s.onces[op.on.toNat]).m).none h
   have hD : doM p.pure s.pure k = doOnce p.pure s.pure k op := by rw [hdm, doOp, if_neg (by omega), if_neg (by omega), if_neg (by omega), if_pos hk]
   have hq : (k : Int) ∉ (s.onces[op.on.toNat]'hil).m.waits := by simpa using (ofKey_map_nil (g := fun t : Int => t)).1 (hnq _ r.ev)
   have hst : s.pure.status.getD (k : Int).toNat 0 = st := by rw [Int.toNat_natCast, List.getD_eq_getElem?_getD, r.h3]; rfl
   have hst2 : s.status[k] = st := (List.getElem?_eq_some_iff.1 r.h3).2
   refine stop_idx encInt tabOk rfl rfl rfl rfl rfl ⟨rfl, rfl⟩ (rdVia 12 rfl (.ofR (stateO_status s))) k rfl z38 (fun ad6 => ?_)
   apply CaseB.mk <;> intro g
   · have h2 : st = 2 := by rw [← hst2]; simpa using g
     obtain ⟨w1, w2⟩ := r.owner hx hi h2
     obtain ⟨x1, told, hres⟩ : ∃ x1 told, (s.onces[op.on.toNat]'hil).m.finish k op.arg = (x1, told) := ⟨_, _, rfl⟩
     have hte : told = (s.onces[op.on.toNat]'hil).m.waits := by have := hres; simp only [Once.finish, Prod.mk.injEq] at this; exact this.2.symm
     have htin := (⟨hte.symm, by rw [hte]; exact onceOk_len ok⟩ : (s.onces[op.on.toNat]'hil).m.waits = told ∧ told.length ≤ 6)
     have htl : told.length ≤ 100 := by omega
     have htold : ∀ u ∈ told, 0 ≤ u ∧ u < (y.places.length : Int) := fun u hu => by
       have := ft.isIn fun h0 => (ofKey_map_nil (g := fun t : Int => t)).1 (hnq u h0) (by rw [← htin.1] at *; simpa using hu)
       rw [lt] at this
       omega
     refine draw_start tabOk z95 z95 z95 200 [((1, 3), .v (s.h3.val s.onces.length)), ((4, 1), .v (.int .i64 op.on)), ((4, 2), .v (.int .i64 op.arg))] [12] [_] z118 z130 ⟨rfl, trivial⟩ rfl ?_
     refine d_idx (ti := tiOf tab) encOnceH tabOk rfl rfl rfl rfl rfl ⟨rfl, rfl⟩ (rdVia 0 rfl (.trans (.R_R (stateO_onces s)) (.ofR nest_h))) op.on.toNat hi.symm z38 (fun ad5 => ?_)
     refine BothW.mk ?_ ?_
     all_goals
       refine d_call _ cl86 rfl rfl rfl rfl ⟨rfl, rfl⟩ (fun A w hW => finish_c _ _ _ _ w ⟨hW.get 12 rfl (.trans (.R_R (stateO_onces s)) (.ofR (oncesO_0 _ _ op.on.toNat hil))), trivial⟩ ok w1 w2 hval) ?_
       rw [hres]
       rintro v L ⟨q1, z1, rfl, rfl⟩
       refine draw_own 5 rfl (show 0 < y.onces.length by omega) fun gg hgg _ _ => ?_
       refine draw_start tabOk z95 z95 z95 200 [((3, 8), .v (y.h3.val y.onces.length)), ((4, 1), .v (.int .i64 op.on)), ((5, 0), .v (.int .i64 (x1).state)), ((5, 1), .v (.int .i64 (x1).owner)), ((5, 2), .v (.int .i64 (x1).value)), ((5, 3), .v (q1.val (x1).waits.length))] [] [] z105 z119 trivial rfl ?_
       refine d_idxP (ti := tiOf tab) tabOk rfl rfl rfl rfl rfl ⟨rfl, rfl⟩ hgg op.on.toNat hi.symm hjl ?_
       refine d_storeW (ti := tiOf tab) encOnceH 5 tabOk rfl rfl rfl rfl rfl rfl rfl rfl hgg op.on.toNat 0 ⟨x1, q1⟩ rfl hjl rfl (cOnceH ⟨x1, q1⟩) (fun _ => rfl) z68 z93 ?_
       refine stop_callPG _ [3, 4] (G := [_, _]) cl82 rfl rfl rfl rfl ⟨rfl, rfl⟩ rfl rfl ⟨rfl, rfl, trivial⟩ ⟨rfl, rfl, rfl, rfl, trivial⟩ (fun A w ga hga hW hblk => (goOn_c ga _ _ p y _ _ _ told (y.pure) w hblk (hW.atG [3, 4] (G := [_, _]) ⟨rfl, rfl, trivial⟩ rfl ⟨rfl, rfl, rfl, rfl, trivial⟩ [11, 2] (Fo := [_, _]) z131 rfl) (hW.atG_off z96 hga (ix := [3, 4]) (G := [_, _]) ⟨rfl, rfl, trivial⟩ (jx := [11, 2]) (Fo := [_, _]) z131) rfl rfl hnm hn htold htl hpA hn4)) ?_
       rintro v cs L ⟨rfl, rfl, rfl⟩
       refine AllSl.mk fun zt => ?_
       refine stop_callPG _ [1, 2] (G := [_, _]) cl82 rfl rfl rfl rfl ⟨rfl, rfl⟩ rfl rfl ⟨rfl, rfl, trivial⟩ ⟨rfl, rfl, rfl, rfl, trivial⟩ (fun A w ga hga hW hblk => (goOn_c ga _ _ p y _ _ zt [(k : Int)] (onM p.pure told (y.pure)) w hblk (hW.atG [1, 2] (G := [_, _]) ⟨rfl, rfl, trivial⟩ rfl ⟨rfl, rfl, rfl, rfl, trivial⟩ [12, 0] (Fo := [_, _]) z131 rfl) (hW.atG_off z96 hga (ix := [1, 2]) (G := [_, _]) ⟨rfl, rfl, trivial⟩ (jx := [12, 0]) (Fo := [_, _]) z131) ((onM_len _ _ _).1.trans rfl) ((onM_len _ _ _).2.trans rfl) hnm hn hw1 (by simp) (fun x hx => by have := onM_bound p.pure told y.pure 20 (by omega) hp0 x hx; omega) hn4)) ?_
       rintro v cs L ⟨rfl, rfl, rfl⟩
       have hlp : (onM p.pure [(k : Int)] (onM p.pure told (y.pure))).places.length = y.places.length := ((onM_len _ _ _).1.trans ((onM_len _ _ _).1.trans rfl))
       have hls : (onM p.pure [(k : Int)] (onM p.pure told (y.pure))).status.length = y.status.length := ((onM_len _ _ _).2.trans ((onM_len _ _ _).2.trans rfl))
       refine CaseB.mk (fun g => by cases g) (fun _ => ?_)
       obtain ⟨y9, hy9⟩ : ∃ y9 : StateH, y9 = ⟨(onM p.pure [(k : Int)] (onM p.pure told (y.pure))).places, (onM p.pure [(k : Int)] (onM p.pure told (y.pure))).status, y.sems, (y.onces.set op.on.toNat ⟨x1, q1⟩), y.groups, y.barriers, y.chans, y.said, y.fault, y.h0, y.h1, y.h2, y.h3, y.h4, y.h5, y.h6, y.h7⟩ := ⟨_, rfl⟩
       have hP : y9.pure = doM p.pure s.pure k := by
         rw [hD, doOnce, hst, if_pos h2, hxa, hres]
         show _ = onM p.pure (told ++ [(k : Int)]) (setOnce s.pure op x1)
         rw [← hy, onM_eq p.pure (told ++ [(k : Int)]) y.pure (setOnce y.pure op x1) rfl rfl, onM_app, hy9]
         simp only [StateH.pure, setOnce, List.map_set]
       have h64 : (doM p.pure s.pure k).said.length ≤ 64 := by
         rw [← hP, hy9]
         exact hsd
       have hok : StepOk p.pure s.pure k := hso.2 ⟨h64, hwn (by omega)⟩
       have hsm : y9.pure.small20 := by rw [hP]; exact hok.2.2.2.small
       have hv : stateV y9 = .agg #[y.h0.val y.places.length, y.h1.val y.status.length, y.h2.val y.sems.length, y.h3.val y.onces.length, y.h4.val y.groups.length, y.h5.val y.barriers.length, y.h6.val y.chans.length, (y.h7).val (y.said).length, .int .i64 y.fault] := by
         rw [hy9]; simp only [stateV, hlp, hls, List.length_set]
       have hcl := fun w h => stateClone_c y9 w h hsm
       rw [hv] at hcl
       refine stop_call _ cl79 rfl rfl rfl rfl ⟨rfl, rfl⟩ (fun A w hW => hcl w ⟨getR hW (stateR y9 (by rw [hy9]; exact outIn 0 1 6 3 7 8 9 10 rfl rfl rfl rfl rfl rfl rfl rfl) (by rw [hy9]; exact fun g hg => (inner_once hg).elim (fun h => inO 11 rfl h) (fun h => by obtain rfl := List.mem_singleton.1 h; exact inF (List.mem_of_getElem? (i := 4) rfl)))), trivial⟩) ?_
       rintro v L ⟨y3, rfl, hy3, rfl⟩
       exact retw [0] ⟨y3, true, rfl, tyes hok, fun _ => hy3.trans hP, fun e => z98, rfl⟩ z133 rfl ⟨rfl, trivial⟩ (fun _ => rfl)
   have h2 : ¬ st = 2 := by rw [← hst2]; simpa using g
   obtain ⟨x1, c1, hres⟩ : ∃ x1 c1, (s.onces[op.on.toNat]'hil).m.enter k = (x1, c1) := ⟨_, _, rfl⟩
   refine stop_idx encOnceH tabOk rfl rfl rfl rfl rfl ⟨rfl, rfl⟩ (rdVia 12 rfl (.trans (.R_R (stateO_onces s)) (.ofR nest_h))) op.on.toNat hi.symm z38 (fun ad5 => ?_)
   refine stop_call _ cl87 rfl rfl rfl rfl ⟨rfl, rfl⟩ (fun A w hW => enter_c _ _ _ w ⟨hW.get 12 rfl (.trans (.R_R (stateO_onces s)) (.ofR (oncesO_0 _ _ op.on.toNat hil))), trivial⟩ ok r.thr hq (r.stranger hx h2)) ?_
   rw [hres]
   rintro v L ⟨q1, rfl, rfl⟩
   refine draw_own 4 rfl (show 0 < y.onces.length by omega) fun gg hgg _ _ => ?_
   refine draw_start tabOk z95 z95 z95 200 [((3, 8), .v (y.h3.val y.onces.length)), ((4, 1), .v (.int .i64 op.on)), ((5, 0), .v (.int .i64 (x1).state)), ((5, 1), .v (.int .i64 (x1).owner)), ((5, 2), .v (.int .i64 (x1).value)), ((5, 3), .v (q1.val (x1).waits.length))] [] [] z105 z119 trivial rfl ?_
   refine d_idxP (ti := tiOf tab) tabOk rfl rfl rfl rfl rfl ⟨rfl, rfl⟩ hgg op.on.toNat hi.symm hjl ?_
   refine d_storeW (ti := tiOf tab) encOnceH 4 tabOk rfl rfl rfl rfl rfl rfl rfl rfl hgg op.on.toNat 0 ⟨x1, q1⟩ rfl hjl rfl (cOnceH ⟨x1, q1⟩) (fun _ => rfl) z68 z93 ?_
   apply CaseB.mk <;> intro g
   · have e0 : c1 = 0 := by simpa using g
     refine stop_idxW encInt 3 tabOk rfl rfl rfl rfl rfl ⟨rfl, rfl⟩ rfl (rfl).symm k rfl (by omega) (fun gs hgs => ?_)
     refine stop_storeW encInt 3 tabOk rfl rfl rfl rfl rfl rfl rfl rfl hgs k 0 2 rfl (by omega) rfl [.int .i64 2] (fun _ => rfl) rfl ?_
     have hlp : (waitM (y.pure) k 2).places.length = y.places.length := rfl
     have hls : (waitM (y.pure) k 2).status.length = y.status.length := ((List.length_set ..).trans rfl)
     refine CaseB.mk (fun g => by cases g) (fun _ => ?_)
     obtain ⟨y9, hy9⟩ : ∃ y9 : StateH, y9 = ⟨(waitM (y.pure) k 2).places, (waitM (y.pure) k 2).status, y.sems, (y.onces.set op.on.toNat ⟨x1, q1⟩), y.groups, y.barriers, y.chans, y.said, y.fault, y.h0, y.h1, y.h2, y.h3, y.h4, y.h5, y.h6, y.h7⟩ := ⟨_, rfl⟩
     have hP : y9.pure = doM p.pure s.pure k := by
       rw [hD, doOnce, hst, if_neg h2, hxa, hres]
       show _ = if c1 = 0 then waitM (setOnce s.pure op x1) k 2 else if c1 = 1 then waitM (setOnce s.pure op x1) k 1 else onM p.pure [(k : Int)] (setOnce s.pure op x1)
       rw [if_pos e0, ← hy, hy9]
       simp only [StateH.pure, setOnce, List.map_set, waitM]
     have h64 : (doM p.pure s.pure k).said.length ≤ 64 := by
       rw [← hP, hy9]
       exact hsd
     have hok : StepOk p.pure s.pure k := hso.2 ⟨h64, hwn (by omega)⟩
     have hsm : y9.pure.small20 := by rw [hP]; exact hok.2.2.2.small
     have hv : stateV y9 = .agg #[y.h0.val y.places.length, y.h1.val y.status.length, y.h2.val y.sems.length, y.h3.val y.onces.length, y.h4.val y.groups.length, y.h5.val y.barriers.length, y.h6.val y.chans.length, (y.h7).val (y.said).length, .int .i64 y.fault] := by
       rw [hy9]; simp only [stateV, hlp, hls, List.length_set]
     have hcl := fun w h => stateClone_c y9 w h hsm
     rw [hv] at hcl
     refine stop_call _ cl79 rfl rfl rfl rfl ⟨rfl, rfl⟩ (fun A w hW => hcl w ⟨getR hW (stateR y9 z58 z36), trivial⟩) ?_
     rintro v L ⟨y3, rfl, hy3, rfl⟩
     exact retw [0] ⟨y3, true, rfl, tyes hok, fun _ => hy3.trans hP, fun e => z98, rfl⟩ z133 rfl ⟨rfl, trivial⟩ (fun _ => rfl)
   have e0 : ¬ c1 = 0 := by simpa using g
   apply CaseB.mk <;> intro g
   · have e1 : c1 = 1 := by simpa using g
     refine stop_idxW encInt 3 tabOk rfl rfl rfl rfl rfl ⟨rfl, rfl⟩ rfl (rfl).symm k rfl (by omega) (fun gs hgs => ?_)
     refine stop_storeW encInt 3 tabOk rfl rfl rfl rfl rfl rfl rfl rfl hgs k 0 1 rfl (by omega) rfl [.int .i64 1] (fun _ => rfl) rfl ?_
     have hlp : (waitM (y.pure) k 1).places.length = y.places.length := rfl
     have hls : (waitM (y.pure) k 1).status.length = y.status.length := ((List.length_set ..).trans rfl)
     refine CaseB.mk (fun g => by cases g) (fun _ => ?_)
     obtain ⟨y9, hy9⟩ : ∃ y9 : StateH, y9 = ⟨(waitM (y.pure) k 1).places, (waitM (y.pure) k 1).status, y.sems, (y.onces.set op.on.toNat ⟨x1, q1⟩), y.groups, y.barriers, y.chans, y.said, y.fault, y.h0, y.h1, y.h2, y.h3, y.h4, y.h5, y.h6, y.h7⟩ := ⟨_, rfl⟩
     have hP : y9.pure = doM p.pure s.pure k := by
       rw [hD, doOnce, hst, if_neg h2, hxa, hres]
       show _ = if c1 = 0 then waitM (setOnce s.pure op x1) k 2 else if c1 = 1 then waitM (setOnce s.pure op x1) k 1 else onM p.pure [(k : Int)] (setOnce s.pure op x1)
       rw [if_neg e0, if_pos e1, ← hy, hy9]
       simp only [StateH.pure, setOnce, List.map_set, waitM]
     have h64 : (doM p.pure s.pure k).said.length ≤ 64 := by
       rw [← hP, hy9]
       exact hsd
     have hok : StepOk p.pure s.pure k := hso.2 ⟨h64, hwn (by omega)⟩
     have hsm : y9.pure.small20 := by rw [hP]; exact hok.2.2.2.small
     have hv : stateV y9 = .agg #[y.h0.val y.places.length, y.h1.val y.status.length, y.h2.val y.sems.length, y.h3.val y.onces.length, y.h4.val y.groups.length, y.h5.val y.barriers.length, y.h6.val y.chans.length, (y.h7).val (y.said).length, .int .i64 y.fault] := by
       rw [hy9]; simp only [stateV, hlp, hls, List.length_set]
     have hcl := fun w h => stateClone_c y9 w h hsm
     rw [hv] at hcl
     refine stop_call _ cl79 rfl rfl rfl rfl ⟨rfl, rfl⟩ (fun A w hW => hcl w ⟨getR hW (stateR y9 z58 z36), trivial⟩) ?_
     rintro v L ⟨y3, rfl, hy3, rfl⟩
     exact retw [0] ⟨y3, true, rfl, tyes hok, fun _ => hy3.trans hP, fun e => z98, rfl⟩ z133 rfl ⟨rfl, trivial⟩ (fun _ => rfl)
   have e1 : ¬ c1 = 1 := by simpa using g
   refine AllSl.mk fun zt => ?_
   refine stop_callPG _ [3, 4] (G := [_, _]) cl82 rfl rfl rfl rfl ⟨rfl, rfl⟩ rfl rfl ⟨rfl, rfl, trivial⟩ ⟨rfl, rfl, rfl, rfl, trivial⟩ (fun A w ga hga hW hblk => (goOn_c ga _ _ p y _ _ zt [(k : Int)] (y.pure) w hblk (hW.atG [3, 4] (G := [_, _]) ⟨rfl, rfl, trivial⟩ rfl ⟨rfl, rfl, rfl, rfl, trivial⟩ [11, 0] (Fo := [_, _]) z131 rfl) (hW.atG_off z96 hga (ix := [3, 4]) (G := [_, _]) ⟨rfl, rfl, trivial⟩ (jx := [11, 0]) (Fo := [_, _]) z131) rfl rfl hnm hn hw1 (by simp) hpA hn4)) ?_
   rintro v cs L ⟨rfl, rfl, rfl⟩
   have hlp : (onM p.pure [(k : Int)] (y.pure)).places.length = y.places.length := ((onM_len _ _ _).1.trans rfl)
   have hls : (onM p.pure [(k : Int)] (y.pure)).status.length = y.status.length := ((onM_len _ _ _).2.trans rfl)
   refine CaseB.mk (fun g => by cases g) (fun _ => ?_)
   obtain ⟨y9, hy9⟩ : ∃ y9 : StateH, y9 = ⟨(onM p.pure [(k : Int)] (y.pure)).places, (onM p.pure [(k : Int)] (y.pure)).status, y.sems, (y.onces.set op.on.toNat ⟨x1, q1⟩), y.groups, y.barriers, y.chans, y.said, y.fault, y.h0, y.h1, y.h2, y.h3, y.h4, y.h5, y.h6, y.h7⟩ := ⟨_, rfl⟩
   have hP : y9.pure = doM p.pure s.pure k := by
     rw [hD, doOnce, hst, if_neg h2, hxa, hres]
     show _ = if c1 = 0 then waitM (setOnce s.pure op x1) k 2 else if c1 = 1 then waitM (setOnce s.pure op x1) k 1 else onM p.pure [(k : Int)] (setOnce s.pure op x1)
     rw [if_neg e0, if_neg e1, ← hy, onM_eq p.pure [(k : Int)] y.pure (setOnce y.pure op x1) rfl rfl, hy9]
     simp only [StateH.pure, setOnce, List.map_set]
   have h64 : (doM p.pure s.pure k).said.length ≤ 64 := by
     rw [← hP, hy9]
     exact hsd
   have hok : StepOk p.pure s.pure k := hso.2 ⟨h64, hwn (by omega)⟩
   have hsm : y9.pure.small20 := by rw [hP]; exact hok.2.2.2.small
   have hv : stateV y9 = .agg #[y.h0.val y.places.length, y.h1.val y.status.length, y.h2.val y.sems.length, y.h3.val y.onces.length, y.h4.val y.groups.length, y.h5.val y.barriers.length, y.h6.val y.chans.length, (y.h7).val (y.said).length, .int .i64 y.fault] := by
     rw [hy9]; simp only [stateV, hlp, hls, List.length_set]
   have hcl := fun w h => stateClone_c y9 w h hsm
   rw [hv] at hcl
   refine stop_call _ cl79 rfl rfl rfl rfl ⟨rfl, rfl⟩ (fun A w hW => hcl w ⟨getR hW (stateR y9 z59 (by rw [hy9]; exact fun g hg => (inner_once hg).elim (fun h => inO 10 rfl h) (fun h => by obtain rfl := List.mem_singleton.1 h; exact inF (List.mem_of_getElem? (i := 4) rfl)))), trivial⟩) ?_
   rintro v L ⟨y3, rfl, hy3, rfl⟩
   exact retw [0] ⟨y3, true, rfl, tyes hok, fun _ => hy3.trans hP, fun e => z98, rfl⟩ z133 rfl ⟨rfl, trivial⟩ (fun _ => rfl)
 refine CaseB.mk (fun g => ?_) (fun g5 => ?_)
 · have hk : op.kind = 5 := by simpa using g
   obtain ⟨x, hx, hxa, ok, ha, hi⟩ := r.group (.inl hk)
   have hil : op.on.toNat < s.groups.length := by have := (List.getElem?_eq_some_iff.1 hx).1; simpa [StateH.pure] using this
   have hxe : (s.groups[op.on.toNat]'hil).m = x := by have := hx; simp only [StateH.pure, List.getElem?_map, List.getElem?_eq_getElem hil, Option.map_some, Option.some.injEq] at this; exact this
   subst hxe
   have hjl : op.on.toNat < y.groups.length := by have := congrArg List.length hy4; simp at this; omega
   have hnq := fun u (h : ofKey (events s.pure) u = []) => (swap_groups hx (s.groups[op.on.toNat]).m).none h
   have hD : doM p.pure s.pure k = doAdd p.pure s.pure k op := by rw [hdm, doOp, if_neg (by omega), if_neg (by omega), if_neg (by omega), if_neg (by omega), if_pos hk]
   rcases hres : (s.groups[op.on.toNat]'hil).m.add op.arg with _ | ⟨x1, told⟩
   · have hF : doM p.pure s.pure k = faultM s.pure 2 := by rw [hD, doAdd, hxa, hres]
     refine draw_start tabOk z95 z95 z95 200 [((1, 4), .v (s.h4.val s.groups.length)), ((4, 1), .v (.int .i64 op.on)), ((4, 2), .v (.int .i64 op.arg))] [12] [_] z118 z130 ⟨rfl, trivial⟩ rfl ?_
     refine d_idx (ti := tiOf tab) encGroupH tabOk rfl rfl rfl rfl rfl ⟨rfl, rfl⟩ (rdVia 0 rfl (.trans (.R_R (stateO_groups s)) (.ofR nest_h))) op.on.toNat hi.symm z38 (fun ad5 => ?_)
     refine BothW.mk ?_ ?_
     all_goals
       refine d_call _ cl88 rfl rfl rfl rfl ⟨rfl, rfl⟩ (fun A w hW => add_c _ _ _ w ⟨hW.get 12 rfl (.trans (.R_R (stateO_groups s)) (.ofR (groupsO_0 _ _ op.on.toNat hil))), trivial⟩ ok (ha hk).1 (ha hk).2) ?_
       rw [hres]
       rintro v L ⟨q1, z1, rfl, rfl⟩
       refine CaseB.mk (fun _ => ?_) (fun g => by simp at g)
       have hok : StepOk p.pure s.pure k := hso.2 ⟨by rw [hF]; exact ft.lsaid, hwn (by omega)⟩
       refine stop_callPGc _ [] (G := []) cl80 rfl rfl rfl rfl ⟨rfl, rfl⟩ rfl rfl trivial trivial (fun A w ga hga hW hblk => fault_c 2 ga s w hblk (hW.atG [] (G := []) trivial rfl trivial [12] (Fo := [_]) z121 rfl) (hW.atG_off z96 hga (ix := []) (G := []) trivial (jx := [12]) (Fo := [_]) z121) hs) ?_
       rintro v cs L ⟨y3, rfl, rfl, hy3, rfl⟩
       exact retw [0] ⟨y3, true, rfl, tyes hok, fun _ => hy3.trans hF.symm, fun e => z98, rfl⟩ z133 rfl ⟨rfl, trivial⟩ (fun _ => rfl)
   have htin := add_told ok hres
   have htl : told.length ≤ 100 := by omega
   have htold : ∀ u ∈ told, 0 ≤ u ∧ u < (y.places.length : Int) := fun u hu => by
     have := ft.isIn fun h0 => (ofKey_map_nil (g := fun t : Int => t)).1 (hnq u h0) (by simpa using htin.1 u hu)
     rw [lt] at this
     omega
   refine draw_start tabOk z95 z95 z95 200 [((1, 4), .v (s.h4.val s.groups.length)), ((4, 1), .v (.int .i64 op.on)), ((4, 2), .v (.int .i64 op.arg))] [12] [_] z118 z130 ⟨rfl, trivial⟩ rfl ?_
   refine d_idx (ti := tiOf tab) encGroupH tabOk rfl rfl rfl rfl rfl ⟨rfl, rfl⟩ (rdVia 0 rfl (.trans (.R_R (stateO_groups s)) (.ofR nest_h))) op.on.toNat hi.symm z38 (fun ad5 => ?_)
   refine BothW.mk ?_ ?_
   all_goals
     refine d_call _ cl88 rfl rfl rfl rfl ⟨rfl, rfl⟩ (fun A w hW => add_c _ _ _ w ⟨hW.get 12 rfl (.trans (.R_R (stateO_groups s)) (.ofR (groupsO_0 _ _ op.on.toNat hil))), trivial⟩ ok (ha hk).1 (ha hk).2) ?_
     rw [hres]
     rintro v L ⟨q1, z1, rfl, rfl⟩
     refine CaseB.mk (fun g => by simp at g) (fun _ => ?_)
     refine draw_own 6 rfl (show 0 < y.groups.length by omega) fun gg hgg _ _ => ?_
     refine draw_start tabOk z95 z95 z95 200 [((3, 9), .v (y.h4.val y.groups.length)), ((4, 1), .v (.int .i64 op.on)), ((5, 0), .v (.int .i64 (x1).count)), ((5, 1), .v (q1.val (x1).waits.length))] [] [] z111 z125 trivial rfl ?_
     refine d_idxP (ti := tiOf tab) tabOk rfl rfl rfl rfl rfl ⟨rfl, rfl⟩ hgg op.on.toNat hi.symm hjl ?_
     refine d_storeW (ti := tiOf tab) encGroupH 6 tabOk rfl rfl rfl rfl rfl rfl rfl rfl hgg op.on.toNat 0 ⟨x1, q1⟩ rfl hjl rfl (cGroupH ⟨x1, q1⟩) (fun _ => rfl) z68 z93 ?_
     refine stop_callPG _ [3, 4] (G := [_, _]) cl82 rfl rfl rfl rfl ⟨rfl, rfl⟩ rfl rfl ⟨rfl, rfl, trivial⟩ ⟨rfl, rfl, rfl, rfl, trivial⟩ (fun A w ga hga hW hblk => (goOn_c ga _ _ p y _ _ _ told (y.pure) w hblk (hW.atG [3, 4] (G := [_, _]) ⟨rfl, rfl, trivial⟩ rfl ⟨rfl, rfl, rfl, rfl, trivial⟩ [11, 2] (Fo := [_, _]) z131 rfl) (hW.atG_off z96 hga (ix := [3, 4]) (G := [_, _]) ⟨rfl, rfl, trivial⟩ (jx := [11, 2]) (Fo := [_, _]) z131) rfl rfl hnm hn htold htl hpA hn4)) ?_
     rintro v cs L ⟨rfl, rfl, rfl⟩
     refine AllSl.mk fun zt => ?_
     refine stop_callPG _ [1, 2] (G := [_, _]) cl82 rfl rfl rfl rfl ⟨rfl, rfl⟩ rfl rfl ⟨rfl, rfl, trivial⟩ ⟨rfl, rfl, rfl, rfl, trivial⟩ (fun A w ga hga hW hblk => (goOn_c ga _ _ p y _ _ zt [(k : Int)] (onM p.pure told (y.pure)) w hblk (hW.atG [1, 2] (G := [_, _]) ⟨rfl, rfl, trivial⟩ rfl ⟨rfl, rfl, rfl, rfl, trivial⟩ [12, 0] (Fo := [_, _]) z131 rfl) (hW.atG_off z96 hga (ix := [1, 2]) (G := [_, _]) ⟨rfl, rfl, trivial⟩ (jx := [12, 0]) (Fo := [_, _]) z131) ((onM_len _ _ _).1.trans rfl) ((onM_len _ _ _).2.trans rfl) hnm hn hw1 (by simp) (fun x hx => by have := onM_bound p.pure told y.pure 20 (by omega) hp0 x hx; omega) hn4)) ?_
     rintro v cs L ⟨rfl, rfl, rfl⟩
     have hlp : (onM p.pure [(k : Int)] (onM p.pure told (y.pure))).places.length = y.places.length := ((onM_len _ _ _).1.trans ((onM_len _ _ _).1.trans rfl))
     have hls : (onM p.pure [(k : Int)] (onM p.pure told (y.pure))).status.length = y.status.length := ((onM_len _ _ _).2.trans ((onM_len _ _ _).2.trans rfl))
     refine CaseB.mk (fun g => by cases g) (fun _ => ?_)
     obtain ⟨y9, hy9⟩ : ∃ y9 : StateH, y9 = ⟨(onM p.pure [(k : Int)] (onM p.pure told (y.pure))).places, (onM p.pure [(k : Int)] (onM p.pure told (y.pure))).status, y.sems, y.onces, (y.groups.set op.on.toNat ⟨x1, q1⟩), y.barriers, y.chans, y.said, y.fault, y.h0, y.h1, y.h2, y.h3, y.h4, y.h5, y.h6, y.h7⟩ := ⟨_, rfl⟩
     have hP : y9.pure = doM p.pure s.pure k := by
       rw [hD, doAdd, hxa, hres]
       show _ = onM p.pure (told ++ [(k : Int)]) (setGroup s.pure op x1)
       rw [← hy, onM_eq p.pure (told ++ [(k : Int)]) y.pure (setGroup y.pure op x1) rfl rfl, onM_app, hy9]
       simp only [StateH.pure, setGroup, List.map_set]
     have h64 : (doM p.pure s.pure k).said.length ≤ 64 := by
       rw [← hP, hy9]
       exact hsd
     have hok : StepOk p.pure s.pure k := hso.2 ⟨h64, hwn (by omega)⟩
     have hsm : y9.pure.small20 := by rw [hP]; exact hok.2.2.2.small
     have hv : stateV y9 = .agg #[y.h0.val y.places.length, y.h1.val y.status.length, y.h2.val y.sems.length, y.h3.val y.onces.length, y.h4.val y.groups.length, y.h5.val y.barriers.length, y.h6.val y.chans.length, (y.h7).val (y.said).length, .int .i64 y.fault] := by
       rw [hy9]; simp only [stateV, hlp, hls, List.length_set]
     have hcl := fun w h => stateClone_c y9 w h hsm
     rw [hv] at hcl
     refine stop_call _ cl79 rfl rfl rfl rfl ⟨rfl, rfl⟩ (fun A w hW => hcl w ⟨getR hW (stateR y9 (by rw [hy9]; exact outIn 0 1 6 7 3 8 9 10 rfl rfl rfl rfl rfl rfl rfl rfl) (by rw [hy9]; exact fun g hg => (inner_group hg).elim (fun h => inO 11 rfl h) (fun h => by obtain rfl := List.mem_singleton.1 h; exact inF (List.mem_of_getElem? (i := 4) rfl)))), trivial⟩) ?_
     rintro v L ⟨y3, rfl, hy3, rfl⟩
     exact retw [0] ⟨y3, true, rfl, tyes hok, fun _ => hy3.trans hP, fun e => z98, rfl⟩ z133 rfl ⟨rfl, trivial⟩ (fun _ => rfl)
 refine CaseB.mk (fun g => ?_) (fun g6 => ?_)
 · have hk : op.kind = 6 := by simpa using g
   obtain ⟨x, hx, hxa, ok, ha, hi⟩ := r.group (.inr hk)
   have hil : op.on.toNat < s.groups.length := by have := (List.getElem?_eq_some_iff.1 hx).1; simpa [StateH.pure] using this
   have hxe : (s.groups[op.on.toNat]'hil).m = x := by have := hx; simp only [StateH.pure, List.getElem?_map, List.getElem?_eq_getElem hil, Option.map_some, Option.some.injEq] at this; exact this
   subst hxe
   have hjl : op.on.toNat < y.groups.length := by have := congrArg List.length hy4; simp at this; omega
   have hnq := fun u (h : ofKey (events s.pure) u = []) => (swap_groups hx (s.groups[op.on.toNat]).m).none h
   have hD : doM p.pure s.pure k = doWait p.pure s.pure k op := by rw [hdm, doOp, if_neg (by omega), if_neg (by omega), if_neg (by omega), if_neg (by omega), if_neg (by omega), if_pos hk]
   have hq : (k : Int) ∉ (s.groups[op.on.toNat]'hil).m.waits := by simpa using (ofKey_map_nil (g := fun t : Int => t)).1 (hnq _ r.ev)
   obtain ⟨x1, b1, hres⟩ : ∃ x1 b1, (s.groups[op.on.toNat]'hil).m.wait k = (x1, b1) := ⟨_, _, rfl⟩
   refine stop_idx encGroupH tabOk rfl rfl rfl rfl rfl ⟨rfl, rfl⟩ (rdVia 12 rfl (.trans (.R_R (stateO_groups s)) (.ofR nest_h))) op.on.toNat hi.symm z38 (fun ad5 => ?_)
   refine stop_call _ cl89 rfl rfl rfl rfl ⟨rfl, rfl⟩ (fun A w hW => wait_c _ _ _ w ⟨hW.get 12 rfl (.trans (.R_R (stateO_groups s)) (.ofR (groupsO_0 _ _ op.on.toNat hil))), trivial⟩ ok r.thr hq) ?_
   rw [hres]
   rintro v L ⟨q1, rfl, rfl⟩
   refine draw_own 5 rfl (show 0 < y.groups.length by omega) fun gg hgg _ _ => ?_
   refine draw_start tabOk z95 z95 z95 200 [((3, 9), .v (y.h4.val y.groups.length)), ((4, 1), .v (.int .i64 op.on)), ((5, 0), .v (.int .i64 (x1).count)), ((5, 1), .v (q1.val (x1).waits.length))] [] [] z111 z125 trivial rfl ?_
   refine d_idxP (ti := tiOf tab) tabOk rfl rfl rfl rfl rfl ⟨rfl, rfl⟩ hgg op.on.toNat hi.symm hjl ?_
   refine d_storeW (ti := tiOf tab) encGroupH 5 tabOk rfl rfl rfl rfl rfl rfl rfl rfl hgg op.on.toNat 0 ⟨x1, q1⟩ rfl hjl rfl (cGroupH ⟨x1, q1⟩) (fun _ => rfl) z68 z93 ?_
   refine stop_callPG _ [2, 3] (G := [_, _]) cl84 rfl rfl rfl rfl ⟨rfl, rfl⟩ rfl rfl ⟨rfl, rfl, trivial⟩ ⟨rfl, rfl, rfl, rfl, trivial⟩ (fun A w ga hga hW hblk => (either_c ga _ _ p y _ _ k (b1) (y.pure) w hblk (hW.atG [2, 3] (G := [_, _]) ⟨rfl, rfl, trivial⟩ rfl ⟨rfl, rfl, rfl, rfl, trivial⟩ [10] (Fo := [_]) z137 rfl) (hW.atG_off z96 hga (ix := [2, 3]) (G := [_, _]) ⟨rfl, rfl, trivial⟩ (jx := [10]) (Fo := [_]) z137) rfl rfl hnm hn hkn hpA hn4)) ?_
   rintro v cs L ⟨rfl, rfl, rfl⟩
   have hlp : (eitherM p.pure (y.pure) k (b1)).places.length = y.places.length := ((eitherM_len _ _ _ _).1.trans rfl)
   have hls : (eitherM p.pure (y.pure) k (b1)).status.length = y.status.length := ((eitherM_len _ _ _ _).2.trans rfl)
   refine CaseB.mk (fun g => by cases g) (fun _ => ?_)
   obtain ⟨y9, hy9⟩ : ∃ y9 : StateH, y9 = ⟨(eitherM p.pure (y.pure) k (b1)).places, (eitherM p.pure (y.pure) k (b1)).status, y.sems, y.onces, (y.groups.set op.on.toNat ⟨x1, q1⟩), y.barriers, y.chans, y.said, y.fault, y.h0, y.h1, y.h2, y.h3, y.h4, y.h5, y.h6, y.h7⟩ := ⟨_, rfl⟩
   have hP : y9.pure = doM p.pure s.pure k := by
     rw [hD, doWait, hxa, hres]
     show _ = eitherM p.pure (setGroup s.pure op x1) k b1
     rw [← hy, eitherM_eq p.pure y.pure (setGroup y.pure op x1) k b1 rfl rfl, hy9]
     simp only [StateH.pure, setGroup, List.map_set]
   have h64 : (doM p.pure s.pure k).said.length ≤ 64 := by
     rw [← hP, hy9]
     exact hsd
   have hok : StepOk p.pure s.pure k := hso.2 ⟨h64, hwn (by omega)⟩
   have hsm : y9.pure.small20 := by rw [hP]; exact hok.2.2.2.small
   have hv : stateV y9 = .agg #[y.h0.val y.places.length, y.h1.val y.status.length, y.h2.val y.sems.length, y.h3.val y.onces.length, y.h4.val y.groups.length, y.h5.val y.barriers.length, y.h6.val y.chans.length, (y.h7).val (y.said).length, .int .i64 y.fault] := by
     rw [hy9]; simp only [stateV, hlp, hls, List.length_set]
   have hcl := fun w h => stateClone_c y9 w h hsm
   rw [hv] at hcl
   refine stop_call _ cl79 rfl rfl rfl rfl ⟨rfl, rfl⟩ (fun A w hW => hcl w ⟨getR hW (stateR y9 (by rw [hy9]; exact outIn 0 1 4 5 2 6 7 8 rfl rfl rfl rfl rfl rfl rfl rfl) (by rw [hy9]; exact fun g hg => (inner_group hg).elim (fun h => inO 9 rfl h) (fun h => by obtain rfl := List.mem_singleton.1 h; exact inF (List.mem_of_getElem? (i := 3) rfl)))), trivial⟩) ?_
   rintro v L ⟨y3, rfl, hy3, rfl⟩
   exact retw [0] ⟨y3, true, rfl, tyes hok, fun _ => hy3.trans hP, fun e => z98, rfl⟩ z133 rfl ⟨rfl, trivial⟩ (fun _ => rfl)
 refine CaseB.mk (fun g => ?_) (fun g7 => ?_)
 · have hk : op.kind = 7 := by simpa using g
   obtain ⟨x, hx, hxa, ok, hi⟩ := r.barrier hk
   have hil : op.on.toNat < s.barriers.length := by have := (List.getElem?_eq_some_iff.1 hx).1; simpa [StateH.pure] using this
   have hxe : (s.barriers[op.on.toNat]'hil).m = x := by have := hx; simp only [StateH.pure, List.getElem?_map, List.getElem?_eq_getElem hil, Option.map_some, Option.some.injEq] at this; exact this
   subst hxe
   have hjl : op.on.toNat < y.barriers.length := by have := congrArg List.length hy5; simp at this; omega
   have hnq := fun u (h : ofKey (events s.pure) u = []) => (swap_barriers hx (s.barriers[op.on.toNat]).m).none h
   have hD : doM p.pure s.pure k = doArrive p.pure s.pure k op := by rw [hdm, doOp, if_neg (by omega), if_neg (by omega), if_neg (by omega), if_neg (by omega), if_neg (by omega), if_neg (by omega), if_pos hk]
   have hq : (k : Int) ∉ (s.barriers[op.on.toNat]'hil).m.waits := by simpa using (ofKey_map_nil (g := fun t : Int => t)).1 (hnq _ r.ev)
   refine stop_idx encBarrierH tabOk rfl rfl rfl rfl rfl ⟨rfl, rfl⟩ (rdVia 12 rfl (.trans (.R_R (stateO_barriers s)) (.ofR nest_h))) op.on.toNat hi.symm z38 (fun ad5 => ?_)
   rcases hres : (s.barriers[op.on.toNat]'hil).m.arrive k with _ | ⟨x1, told⟩
   · refine stop_call _ cl90 rfl rfl rfl rfl ⟨rfl, rfl⟩ (fun A w hW => arrive_c _ _ _ w ⟨hW.get 12 rfl (.trans (.R_R (stateO_barriers s)) (.ofR (barriersO_0 _ _ op.on.toNat hil))), trivial⟩ ok r.thr hq) ?_
     rw [hres]
     rintro v L ⟨z1, rfl, rfl⟩
     refine CaseB.mk (fun _ => ?_) (fun g => by simp at g)
     have n : ¬ StepOk p.pure s.pure k := fun e => (hso.1 e).2 (by rw [Worn, r.at_, hxa]; exact ⟨hk, hres⟩)
     refine ret_shift (.joinO [90] (Gs := [_]) ⟨.inr ⟨Nat.le_of_ble_eq_true rfl, zero_nil⟩, trivial⟩ rfl (G := stateO StateH.zero) (.of_eq (by simp))) ?_
     exact retw [0] ⟨StateH.zero, false, rfl, tno n, fun e => z98, fun _ => rfl, rfl⟩ z133 rfl ⟨rfl, trivial⟩ (fun _ => rfl)
   have htin := arrive_told ok hres
   have htl : told.length ≤ 100 := by omega
   have htold : ∀ u ∈ told, 0 ≤ u ∧ u < (y.places.length : Int) := fun u hu => by
     by_cases hne : u = k
     · rw [hne]; exact hkn
     have := ft.isIn fun h0 => (htin.1 u hu).elim (fun hu => (ofKey_map_nil (g := fun t : Int => t)).1 (hnq u h0) (by simpa using hu)) (fun hu => hne hu)
     rw [lt] at this
     omega
   have hnw : ¬ Worn p.pure s.pure k := fun e => by rw [Worn, r.at_, hxa, hres] at e; cases e.2
   refine stop_call _ cl90 rfl rfl rfl rfl ⟨rfl, rfl⟩ (fun A w hW => arrive_c _ _ _ w ⟨hW.get 12 rfl (.trans (.R_R (stateO_barriers s)) (.ofR (barriersO_0 _ _ op.on.toNat hil))), trivial⟩ ok r.thr hq) ?_
   rw [hres]
   rintro v L ⟨q1, z1, rfl, rfl⟩
   refine CaseB.mk (fun g => by simp at g) (fun _ => ?_)
   refine draw_own 7 rfl (show 0 < y.barriers.length by omega) fun gg hgg _ _ => ?_
   refine draw_start tabOk z95 z95 z95 200 [((3, 10), .v (y.h5.val y.barriers.length)), ((4, 1), .v (.int .i64 op.on)), ((5, 0), .v (.int .i64 (x1).parties)), ((5, 1), .v (.int .i64 (x1).round)), ((5, 2), .v (q1.val (x1).waits.length))] [] [] z108 z122 trivial rfl ?_
   refine d_idxP (ti := tiOf tab) tabOk rfl rfl rfl rfl rfl ⟨rfl, rfl⟩ hgg op.on.toNat hi.symm hjl ?_
   refine d_storeW (ti := tiOf tab) encBarrierH 7 tabOk rfl rfl rfl rfl rfl rfl rfl rfl hgg op.on.toNat 0 ⟨x1, q1⟩ rfl hjl rfl (cBarrierH ⟨x1, q1⟩) (fun _ => rfl) z68 z93 ?_
   apply CaseB.mk <;> intro g
   · have e0 : told = [] := List.eq_nil_of_length_eq_zero z79
     subst e0
     refine stop_idxW encInt 4 tabOk rfl rfl rfl rfl rfl ⟨rfl, rfl⟩ rfl (rfl).symm k rfl (by omega) (fun gs hgs => ?_)
     refine stop_storeW encInt 4 tabOk rfl rfl rfl rfl rfl rfl rfl rfl hgs k 0 1 rfl (by omega) rfl [.int .i64 1] (fun _ => rfl) rfl ?_
     refine stop_callPG _ [4, 0] (G := [_, _]) cl82 rfl rfl rfl rfl ⟨rfl, rfl⟩ rfl rfl ⟨rfl, rfl, trivial⟩ ⟨rfl, rfl, rfl, rfl, trivial⟩ (fun A w ga hga hW hblk => (goOn_c ga _ _ p y _ _ _ [] (waitM (y.pure) k 1) w hblk (hW.atG [4, 0] (G := [_, _]) ⟨rfl, rfl, trivial⟩ rfl ⟨rfl, rfl, rfl, rfl, trivial⟩ [11, 3] (Fo := [_, _]) z131 rfl) (hW.atG_off z96 hga (ix := [4, 0]) (G := [_, _]) ⟨rfl, rfl, trivial⟩ (jx := [11, 3]) (Fo := [_, _]) z131) rfl ((List.length_set ..).trans rfl) hnm hn (fun x hx => by simp at hx) (by simp) hpA hn4)) ?_
     rintro v cs L ⟨rfl, rfl, rfl⟩
     have hlp : (onM p.pure [] (waitM (y.pure) k 1)).places.length = y.places.length := ((onM_len _ _ _).1.trans rfl)
     have hls : (onM p.pure [] (waitM (y.pure) k 1)).status.length = y.status.length := ((onM_len _ _ _).2.trans ((List.length_set ..).trans rfl))
     refine CaseB.mk (fun g => by cases g) (fun _ => ?_)
     obtain ⟨y9, hy9⟩ : ∃ y9 : StateH, y9 = ⟨(onM p.pure [] (waitM (y.pure) k 1)).places, (onM p.pure [] (waitM (y.pure) k 1)).status, y.sems, y.onces, y.groups, (y.barriers.set op.on.toNat ⟨x1, q1⟩), y.chans, y.said, y.fault, y.h0, y.h1, y.h2, y.h3, y.h4, y.h5, y.h6, y.h7⟩ := ⟨_, rfl⟩
     have hP : y9.pure = doM p.pure s.pure k := by
       rw [hD, doArrive, hxa, hres]
       show _ = waitM (setBarrier s.pure op x1) k 1
       rw [← hy, hy9]
       simp only [StateH.pure, setBarrier, List.map_set, waitM, onM, List.foldl_nil]
     have h64 : (doM p.pure s.pure k).said.length ≤ 64 := by
       rw [← hP, hy9]
       exact hsd
     have hok : StepOk p.pure s.pure k := hso.2 ⟨h64, hnw⟩
     have hsm : y9.pure.small20 := by rw [hP]; exact hok.2.2.2.small
     have hv : stateV y9 = .agg #[y.h0.val y.places.length, y.h1.val y.status.length, y.h2.val y.sems.length, y.h3.val y.onces.length, y.h4.val y.groups.length, y.h5.val y.barriers.length, y.h6.val y.chans.length, (y.h7).val (y.said).length, .int .i64 y.fault] := by
       rw [hy9]; simp only [stateV, hlp, hls, List.length_set]
     have hcl := fun w h => stateClone_c y9 w h hsm
     rw [hv] at hcl
     refine stop_call _ cl79 rfl rfl rfl rfl ⟨rfl, rfl⟩ (fun A w hW => hcl w ⟨getR hW (stateR y9 z60 z35), trivial⟩) ?_
     rintro v L ⟨y3, rfl, hy3, rfl⟩
     exact retw [0] ⟨y3, true, rfl, tyes hok, fun _ => hy3.trans hP, fun e => z98, rfl⟩ z133 rfl ⟨rfl, trivial⟩ (fun _ => rfl)
   have e0 : ¬ told = [] := fun e => by subst e; simp at g
   refine stop_callPG _ [3, 4] (G := [_, _]) cl82 rfl rfl rfl rfl ⟨rfl, rfl⟩ rfl rfl ⟨rfl, rfl, trivial⟩ ⟨rfl, rfl, rfl, rfl, trivial⟩ (fun A w ga hga hW hblk => (goOn_c ga _ _ p y _ _ _ told (y.pure) w hblk (hW.atG [3, 4] (G := [_, _]) ⟨rfl, rfl, trivial⟩ rfl ⟨rfl, rfl, rfl, rfl, trivial⟩ [11, 2] (Fo := [_, _]) z131 rfl) (hW.atG_off z96 hga (ix := [3, 4]) (G := [_, _]) ⟨rfl, rfl, trivial⟩ (jx := [11, 2]) (Fo := [_, _]) z131) rfl rfl hnm hn htold htl hpA hn4)) ?_
   rintro v cs L ⟨rfl, rfl, rfl⟩
   have hlp : (onM p.pure told (y.pure)).places.length = y.places.length := ((onM_len _ _ _).1.trans rfl)
   have hls : (onM p.pure told (y.pure)).status.length = y.status.length := ((onM_len _ _ _).2.trans rfl)
   refine CaseB.mk (fun g => by cases g) (fun _ => ?_)
   obtain ⟨y9, hy9⟩ : ∃ y9 : StateH, y9 = ⟨(onM p.pure told (y.pure)).places, (onM p.pure told (y.pure)).status, y.sems, y.onces, y.groups, (y.barriers.set op.on.toNat ⟨x1, q1⟩), y.chans, y.said, y.fault, y.h0, y.h1, y.h2, y.h3, y.h4, y.h5, y.h6, y.h7⟩ := ⟨_, rfl⟩
   have hP : y9.pure = doM p.pure s.pure k := by
     rw [hD, doArrive, hxa, hres]
     show _ = if told = [] then waitM (setBarrier s.pure op x1) k 1 else onM p.pure told (setBarrier s.pure op x1)
     rw [if_neg e0, ← hy, onM_eq p.pure told y.pure (setBarrier y.pure op x1) rfl rfl, hy9]
     simp only [StateH.pure, setBarrier, List.map_set]
   have h64 : (doM p.pure s.pure k).said.length ≤ 64 := by
     rw [← hP, hy9]
     exact hsd
   have hok : StepOk p.pure s.pure k := hso.2 ⟨h64, hnw⟩
   have hsm : y9.pure.small20 := by rw [hP]; exact hok.2.2.2.small
   have hv : stateV y9 = .agg #[y.h0.val y.places.length, y.h1.val y.status.length, y.h2.val y.sems.length, y.h3.val y.onces.length, y.h4.val y.groups.length, y.h5.val y.barriers.length, y.h6.val y.chans.length, (y.h7).val (y.said).length, .int .i64 y.fault] := by
     rw [hy9]; simp only [stateV, hlp, hls, List.length_set]
   have hcl := fun w h => stateClone_c y9 w h hsm
   rw [hv] at hcl
   refine stop_call _ cl79 rfl rfl rfl rfl ⟨rfl, rfl⟩ (fun A w hW => hcl w ⟨getR hW (stateR y9 z60 z35), trivial⟩) ?_
   rintro v L ⟨y3, rfl, hy3, rfl⟩
   exact retw [0] ⟨y3, true, rfl, tyes hok, fun _ => hy3.trans hP, fun e => z98, rfl⟩ z133 rfl ⟨rfl, trivial⟩ (fun _ => rfl)
 refine CaseB.mk (fun g => ?_) (fun g8 => ?_)
 · have hk : op.kind = 8 := by simpa using g
   obtain ⟨x, hx, hxa, hv, hval, hi⟩ := r.chan (by omega)
   have hil : op.on.toNat < s.chans.length := by have := (List.getElem?_eq_some_iff.1 hx).1; simpa [StateH.pure] using this
   have hxe : (s.chans[op.on.toNat]'hil).m = x := by have := hx; simp only [StateH.pure, List.getElem?_map, List.getElem?_eq_getElem hil, Option.map_some, Option.some.injEq] at this; exact this
   subst hxe
   have hjl : op.on.toNat < y.chans.length := by have := congrArg List.length hy6; simp at this; omega
   have hnq := fun u (h : ofKey (events s.pure) u = []) => (swap_chans hx (s.chans[op.on.toNat]).m).none h
   have hD : doM p.pure s.pure k = doSend p.pure s.pure k op := by rw [hdm, doOp, if_neg (by omega), if_neg (by omega), if_neg (by omega), if_neg (by omega), if_neg (by omega), if_neg (by omega), if_neg (by omega), if_pos hk]
   have hsm := hv.small
   obtain ⟨x1, told, b1, o1, hres⟩ : ∃ x1 told b1 o1, (s.chans[op.on.toNat]'hil).m.send k op.arg = (x1, told, b1, o1) := ⟨_, _, _, _, rfl⟩
   have htin := send_told hres
   have htl : told.length ≤ 100 := by omega
   have htold : ∀ u ∈ told, 0 ≤ u ∧ u < (y.places.length : Int) := fun u hu => by
     have := ft.isIn fun h0 => z72
     rw [lt] at this
     omega
   refine draw_start tabOk z95 z95 z95 200 [((1, 6), .v (s.h6.val s.chans.length)), ((4, 1), .v (.int .i64 op.on)), ((4, 2), .v (.int .i64 op.arg))] [12] [_] z118 z130 ⟨rfl, trivial⟩ rfl ?_
   refine d_idx (ti := tiOf tab) encChanH tabOk rfl rfl rfl rfl rfl ⟨rfl, rfl⟩ (rdVia 0 rfl (.trans (.R_R (stateO_chans s)) (.ofR nest_h))) op.on.toNat hi.symm z38 (fun ad5 => ?_)
   refine BothW.mk ?_ ?_
   all_goals
     refine d_call _ cl91 rfl rfl rfl rfl ⟨rfl, rfl⟩ (fun A w hW => send_c _ _ _ _ _ _ w ⟨hW.get 12 rfl (.trans (.R_R (stateO_chans s)) (.ofR (chansO_0 _ _ op.on.toNat hil))), hW.get 12 rfl (.trans (.R_R (stateO_chans s)) (.ofR (chansO_1 _ _ op.on.toNat hil))), hW.get 12 rfl (.trans (.R_R (stateO_chans s)) (.ofR (chansO_2 _ _ op.on.toNat hil))), trivial⟩ hsm) ?_
     rw [hres]
     rintro v L ⟨q0, q1, q2, z1, rfl, rfl⟩
     apply CaseB.mk <;> intro g
     · have e0 : o1 = false := by simpa using g
       have hF : doM p.pure s.pure k = faultM s.pure 3 := by
         rw [hD, doSend, hxa, hres]
         simp [e0]
       have hok : StepOk p.pure s.pure k := hso.2 ⟨by rw [hF]; exact ft.lsaid, hwn (by omega)⟩
       refine stop_callPGc _ [] (G := []) cl80 rfl rfl rfl rfl ⟨rfl, rfl⟩ rfl rfl trivial trivial (fun A w ga hga hW hblk => fault_c 3 ga s w hblk (hW.atG [] (G := []) trivial rfl trivial [16] (Fo := [_]) z121 rfl) (hW.atG_off z96 hga (ix := []) (G := []) trivial (jx := [16]) (Fo := [_]) z121) hs) ?_
       rintro v cs L ⟨y3, rfl, rfl, hy3, rfl⟩
       exact retw [0] ⟨y3, true, rfl, tyes hok, fun _ => hy3.trans hF.symm, fun e => z98, rfl⟩ z133 rfl ⟨rfl, trivial⟩ (fun _ => rfl)
     have e0 : o1 = true := by simpa using g
     refine draw_own 10 rfl (show 0 < y.chans.length by omega) fun gg hgg _ _ => ?_
     refine draw_start tabOk z95 z95 z95 200 [((3, 11), .v (y.h6.val y.chans.length)), ((4, 1), .v (.int .i64 op.on)), ((5, 0), .v (.int .i64 (x1).room)), ((5, 1), .v (q0.val (x1).items.length)), ((5, 2), .v (q1.val (x1).senders.length)), ((5, 3), .v (q2.val (x1).getters.length)), ((5, 4), .v (.bool (x1).closed))] [] [] z104 z116 trivial rfl ?_
     refine d_idxP (ti := tiOf tab) tabOk rfl rfl rfl rfl rfl ⟨rfl, rfl⟩ hgg op.on.toNat hi.symm hjl ?_
     refine d_storeW (ti := tiOf tab) encChanH 10 tabOk rfl rfl rfl rfl rfl rfl rfl rfl hgg op.on.toNat 0 ⟨x1, q0, q1, q2⟩ rfl hjl rfl (cChanH ⟨x1, q0, q1, q2⟩) (fun _ => rfl) z68 z93 ?_
     refine LoopW.mk ⟨{ q : Nat × Sl × List Int × Bool × List Int × List Int // q.1 ≤ told.length ∧ q.2.2.1 = (if q.1 = 0 then y.said else saidM y.said op.arg) ∧ q.2.2.2.1 = (decide (0 < q.1) && decide (64 ≤ y.said.length)) ∧ q.2.2.2.2.1 = (onM p.pure (told.take q.1) y.pure).places ∧ q.2.2.2.2.2 = (onM p.pure (told.take q.1) y.pure).status },
       fun q => .mk [(2, .v (.int .i64 (k : Int))), (3, .p 0 0), (4, .p 1 0), (6, .p 2 0), (8, .p 3 0), (9, .p 4 0), (34, .v (.bool b1)), (371, .v (z1.val told.length)), (372, .v (.int .i64 (told.length : Int))), (373, .v (.int .i64 (q.1.1 : Int)))] 6 0 [(0, 37, 5), (1, 30, 9), (2, 30, 9), (3, 107, 15), (4, 44, 3)] [((3, 0), .v (p.h0.val p.sems.length)), ((3, 1), .v (p.h1.val p.groups.length)), ((3, 2), .v (p.h2.val p.barriers.length)), ((3, 3), .v (p.h3.val p.rooms.length)), ((3, 4), .v (p.h4.val p.threads.length)), ((3, 5), .v (y.h0.val y.places.length)), ((3, 6), .v (y.h1.val y.status.length)), ((3, 7), .v (y.h2.val y.sems.length)), ((3, 8), .v (y.h3.val y.onces.length)), ((3, 9), .v (y.h4.val y.groups.length)), ((3, 10), .v (y.h5.val y.barriers.length)), ((3, 11), .v (y.h6.val y.chans.length)), ((3, 12), .v (q.1.2.1.val q.1.2.2.1.length)), ((3, 13), .v (.int .i64 y.fault)), ((3, 14), .v (.bool q.1.2.2.2.1)), ((4, 0), .v (.int .i64 op.kind)), ((4, 1), .v (.int .i64 op.on)), ((4, 2), .v (.int .i64 op.arg))] [own y.h0 3 cInt 1 q.1.2.2.2.2.1, own y.h1 3 cInt 1 q.1.2.2.2.2.2, own q.1.2.1 3 cInt 1 q.1.2.2.1, own z1 3 cInt 1 told, own y.h2 57 cSemH 3 y.sems, own y.h3 70 cOnceH 4 y.onces, own y.h4 74 cGroupH 2 y.groups, own y.h5 65 cBarrierH 3 y.barriers, own y.h6 80 cChanH 5 (y.chans.set op.on.toNat ⟨x1, q0, q1, q2⟩), fO (innerO y), slo p.h4 cOpSH 1 p.threads, own q0 3 cInt 1 x1.items, own q1 144 cLet 2 x1.senders, own q2 3 cInt 1 x1.getters],
       fun q => told.length - q.1.1, ⟨(0, y.h7, y.said, false, y.places, y.status), Nat.zero_le _, rfl, by simp, rfl, rfl⟩, ?_, ?_⟩
     · exact weak_mk [5, 6, 11, 4, 7, 8, 9, 10, 0, 12, 13, 1, 2, 3] zw2 zw0 zw2 zw5 zw4 rfl rfl
     rintro ⟨⟨j, z, sd, fl, pl, st2⟩, hj, hsd2, hfl2, hpl2, hst3⟩
     simp only at hj hsd2 hfl2 hpl2 hst3
     simp only
     apply CaseB.mk <;> intro g
     · have hlt : j < told.length := by simpa using g
       obtain rfl : j = 0 := by have := htin.2.1; omega
       obtain rfl : sd = y.said := by simpa using hsd2
       obtain rfl : fl = false := by simpa using hfl2
       obtain rfl : pl = y.pure.places := by simpa [onM] using hpl2
       obtain rfl : st2 = y.pure.status := by simpa [onM] using hst3
       obtain ⟨t0, rfl⟩ : ∃ t0, told = [t0] := List.length_eq_one_iff.1 (by have := htin.2.1; omega)
       refine stop_idx encInt tabOk rfl rfl rfl rfl rfl ⟨rfl, rfl⟩ (rdVia 3 rfl (Rd.own (o := false) (o' := false))) 0 rfl z38 (fun ad7 => ?_)
       refine stop_callPG _ [2] (G := [_]) cl81 rfl rfl rfl rfl ⟨rfl, rfl⟩ rfl rfl ⟨rfl, trivial⟩ ⟨rfl, rfl, trivial⟩ (fun A w ga hga hW hblk => (say_c ga _ _ p y z y.said false op.arg w hblk (hW.atG [2] (G := [_]) ⟨rfl, trivial⟩ rfl ⟨rfl, rfl, trivial⟩ [] (Fo := []) trivial rfl) (hW.atG_off z96 hga (ix := [2]) (G := [_]) ⟨rfl, trivial⟩ (jx := []) (Fo := []) trivial) (by omega))) ?_
       rintro v cs L ⟨rfl, z9, rfl, rfl⟩
       refine AllSl.mk fun zt => ?_
       refine stop_callPG _ [2, 3] (G := [_, _]) cl82 rfl rfl rfl rfl ⟨rfl, rfl⟩ rfl rfl ⟨rfl, rfl, trivial⟩ ⟨rfl, rfl, rfl, rfl, trivial⟩ (fun A w ga hga hW hblk => (goOn_c ga _ _ p y _ _ zt [t0] y.pure w hblk (hW.atG [2, 3] (G := [_, _]) ⟨rfl, rfl, trivial⟩ rfl ⟨rfl, rfl, rfl, rfl, trivial⟩ [11, 0] (Fo := [_, _]) z131 rfl) (hW.atG_off z96 hga (ix := [2, 3]) (G := [_, _]) ⟨rfl, rfl, trivial⟩ (jx := [11, 0]) (Fo := [_, _]) z131) rfl rfl hnm hn (fun x hx => by simp at hx; rw [hx]; exact htold _ (by simp)) (by simp) hpA hn4)) ?_
       rintro v cs L ⟨rfl, rfl, rfl⟩
       have ht1 : [t0].take 1 = [t0] := rfl
       refine ⟨⟨(1, z9, saidM y.said op.arg, (false || decide (64 ≤ y.said.length)), (onM p.pure [t0] y.pure).places, (onM p.pure [t0] y.pure).status), hlt, by simp, by simp, by simp only [ht1], by simp only [ht1]⟩, ?_, by simp only; omega⟩
       exact weak_mk [0, 1, 3, 4, 5, 6, 7, 8, 9, 10, 11, 12, 13, 14] zw2 zw0 zw2 zw5 zw4 rfl rfl
     have hge : told.length ≤ j := by simpa using g
     have hjt : j = told.length := by omega
     rw [List.take_of_length_le hge] at hpl2 hst3
     subst hpl2
     subst hst3
     refine stop_callPG _ [0, 1] (G := [_, _]) cl84 rfl rfl rfl rfl ⟨rfl, rfl⟩ rfl rfl ⟨rfl, rfl, trivial⟩ ⟨rfl, rfl, rfl, rfl, trivial⟩ (fun A w ga hga hW hblk => (either_c ga _ _ p y _ _ k (b1) (onM p.pure told y.pure) w hblk (hW.atG [0, 1] (G := [_, _]) ⟨rfl, rfl, trivial⟩ rfl ⟨rfl, rfl, rfl, rfl, trivial⟩ [10] (Fo := [_]) z137 rfl) (hW.atG_off z96 hga (ix := [0, 1]) (G := [_, _]) ⟨rfl, rfl, trivial⟩ (jx := [10]) (Fo := [_]) z137) (onM_len _ _ _).1 (onM_len _ _ _).2 hnm hn hkn (fun x hx => by have := onM_bound p.pure told y.pure 20 (by omega) hp0 x hx; omega) hn4)) ?_
     rintro v cs L ⟨rfl, rfl, rfl⟩
     have hlp : (eitherM p.pure (onM p.pure told y.pure) k (b1)).places.length = y.places.length := ((eitherM_len _ _ _ _).1.trans (onM_len _ _ _).1)
     have hls : (eitherM p.pure (onM p.pure told y.pure) k (b1)).status.length = y.status.length := ((eitherM_len _ _ _ _).2.trans (onM_len _ _ _).2)
     obtain ⟨S1, hS1⟩ : ∃ S1 : State, S1 = if told = [] then setChan y.pure op x1 else sayM (setChan y.pure op x1) op.arg := ⟨_, rfl⟩
     have s1 : S1.places = y.pure.places := by rw [hS1]; split <;> rfl
     have s2 : S1.status = y.pure.status := by rw [hS1]; split <;> rfl
     have hD2 : doM p.pure s.pure k = eitherM p.pure (onM p.pure told S1) k b1 := by
       rw [hD, doSend, hxa, hres, ← hy]
       show (if o1 = true then (if b1 = true then onM p.pure (told ++ [(k : Int)]) (if told = [] then setChan y.pure op x1 else sayM (setChan y.pure op x1) op.arg) else waitM (setChan y.pure op x1) k 1) else faultM y.pure 3) = _
       rw [if_pos e0, ← hS1, eitherM]
       cases hb1 : b1
       · have := htin.2.2 hb1
         subst this
         rw [hS1]
         simp [onM]
       · simp only [if_true]
         exact onM_app _ _ _ _
     have hpu : eitherM p.pure (onM p.pure told S1) k b1 = { S1 with places := (eitherM p.pure (onM p.pure told y.pure) k b1).places, status := (eitherM p.pure (onM p.pure told y.pure) k b1).status } := by
       have h1 := onM_eq p.pure told y.pure S1 s1 s2
       rw [eitherM_eq p.pure (onM p.pure told y.pure) (onM p.pure told S1) k b1 (by rw [h1]) (by rw [h1]), h1]
     apply CaseB.mk <;> intro g
     · have g2 : fl = true := g
       rw [hfl2] at g2
       have hf : 0 < told.length ∧ 64 ≤ y.said.length := by simpa [hjt] using g2
       have hne : ¬ told = [] := fun e => by rw [e] at hf; simp at hf
       have n : ¬ StepOk p.pure s.pure k := fun e => by
         have h := (hso.1 e).1
         rw [hD2, hpu, hS1, if_neg hne] at h
         have h' : (y.said ++ [op.arg]).length ≤ 64 := h
         simp at h'
         omega
       refine ret_shift (.joinO [90] (Gs := [_]) ⟨.inr ⟨Nat.le_of_ble_eq_true rfl, zero_nil⟩, trivial⟩ rfl (G := stateO StateH.zero) (.of_eq (by simp))) ?_
       exact retw [0] ⟨StateH.zero, false, rfl, tno n, fun e => z98, fun _ => rfl, rfl⟩ z133 rfl ⟨rfl, trivial⟩ (fun _ => rfl)
     have g2 : fl = false := g
     rw [hfl2] at g2
     have hS : S1 = { setChan y.pure op x1 with said := sd } := by
       rw [hS1]
       by_cases e : told = []
       · have j0 : j = 0 := by rw [hjt, e]; rfl
         rw [if_pos e, hsd2, if_pos j0]; rfl
       · have j1 : 0 < j := by rw [hjt]; exact List.length_pos_iff.2 e
         have hf : ¬ 64 ≤ y.said.length := by simpa [j1] using g2
         rw [if_neg e, hsd2, if_neg (by omega), saidM, if_neg hf]; rfl
     have hsd3 : sd.length ≤ 64 := by
       rw [hsd2]
       split
       · exact hsd
       · have j1 : 0 < j := by omega
         have hf : ¬ 64 ≤ y.said.length := by simpa [j1] using g2
         rw [saidM, if_neg hf]; simp; omega
     obtain ⟨y9, hy9⟩ : ∃ y9 : StateH, y9 = ⟨(eitherM p.pure (onM p.pure told y.pure) k (b1)).places, (eitherM p.pure (onM p.pure told y.pure) k (b1)).status, y.sems, y.onces, y.groups, y.barriers, (y.chans.set op.on.toNat ⟨x1, q0, q1, q2⟩), sd, y.fault, y.h0, y.h1, y.h2, y.h3, y.h4, y.h5, y.h6, z⟩ := ⟨_, rfl⟩
     have hP : y9.pure = doM p.pure s.pure k := by
       rw [hD2, hpu, hS, hy9]
       simp only [StateH.pure, setChan, List.map_set]
     have h64 : (doM p.pure s.pure k).said.length ≤ 64 := by
       rw [← hP, hy9]
       exact hsd3
     have hok : StepOk p.pure s.pure k := hso.2 ⟨h64, hwn (by omega)⟩
     have hsm : y9.pure.small20 := by rw [hP]; exact hok.2.2.2.small
     have hv : stateV y9 = .agg #[y.h0.val y.places.length, y.h1.val y.status.length, y.h2.val y.sems.length, y.h3.val y.onces.length, y.h4.val y.groups.length, y.h5.val y.barriers.length, y.h6.val y.chans.length, (z).val (sd).length, .int .i64 y.fault] := by
       rw [hy9]; simp only [stateV, hlp, hls, List.length_set]
     have hcl := fun w h => stateClone_c y9 w h hsm
     rw [hv] at hcl
     refine stop_call _ cl79 rfl rfl rfl rfl ⟨rfl, rfl⟩ (fun A w hW => hcl w ⟨getR hW (stateR y9 (by rw [hy9]; exact outIn 0 1 4 5 6 7 8 2 rfl rfl rfl rfl rfl rfl rfl rfl) (by rw [hy9]; exact fun g hg => (inner_chan hg).elim (fun h => inO 9 rfl h) (fun h => by simp only [chanO, List.mem_cons, List.not_mem_nil, or_false] at h; rcases h with rfl | rfl | rfl <;> first | exact inF (List.mem_of_getElem? (i := 11) rfl) | exact inF (List.mem_of_getElem? (i := 12) rfl) | exact inF (List.mem_of_getElem? (i := 13) rfl)))), trivial⟩) ?_
     rintro v L ⟨y3, rfl, hy3, rfl⟩
     exact retw [0] ⟨y3, true, rfl, tyes hok, fun _ => hy3.trans hP, fun e => z98, rfl⟩ z133 rfl ⟨rfl, trivial⟩ (fun _ => rfl)
 refine CaseB.mk (fun g => ?_) (fun g9 => ?_)
 · have hk : op.kind = 9 := by simpa using g
   obtain ⟨x, hx, hxa, hv, hval, hi⟩ := r.chan (by omega)
   have hil : op.on.toNat < s.chans.length := by have := (List.getElem?_eq_some_iff.1 hx).1; simpa [StateH.pure] using this
   have hxe : (s.chans[op.on.toNat]'hil).m = x := by have := hx; simp only [StateH.pure, List.getElem?_map, List.getElem?_eq_getElem hil, Option.map_some, Option.some.injEq] at this; exact this
   subst hxe
   have hjl : op.on.toNat < y.chans.length := by have := congrArg List.length hy6; simp at this; omega
   have hnq := fun u (h : ofKey (events s.pure) u = []) => (swap_chans hx (s.chans[op.on.toNat]).m).none h
   have hD : doM p.pure s.pure k = doGet p.pure s.pure k op := by rw [hdm, doOp, if_neg (by omega), if_neg (by omega), if_neg (by omega), if_neg (by omega), if_neg (by omega), if_neg (by omega), if_neg (by omega), if_neg (by omega), if_pos hk]
   have hsm := hv.small
   obtain ⟨x1, v1, c1, told, o1, hres⟩ : ∃ x1 v1 c1 told o1, (s.chans[op.on.toNat]'hil).m.get k = (x1, v1, c1, told, o1) := ⟨_, _, _, _, _, rfl⟩
   have htin := get_told hres
   have htl : told.length ≤ 100 := by omega
   have htold : ∀ u ∈ told, 0 ≤ u ∧ u < (y.places.length : Int) := fun u hu => by
     have := ft.isIn fun h0 => z72
     rw [lt] at this
     omega
   refine stop_idx encChanH tabOk rfl rfl rfl rfl rfl ⟨rfl, rfl⟩ (rdVia 12 rfl (.trans (.R_R (stateO_chans s)) (.ofR nest_h))) op.on.toNat hi.symm z38 (fun ad5 => ?_)
   refine stop_call _ cl92 rfl rfl rfl rfl ⟨rfl, rfl⟩ (fun A w hW => get_c _ _ _ _ _ w ⟨hW.get 12 rfl (.trans (.R_R (stateO_chans s)) (.ofR (chansO_0 _ _ op.on.toNat hil))), hW.get 12 rfl (.trans (.R_R (stateO_chans s)) (.ofR (chansO_1 _ _ op.on.toNat hil))), hW.get 12 rfl (.trans (.R_R (stateO_chans s)) (.ofR (chansO_2 _ _ op.on.toNat hil))), trivial⟩ hsm) ?_
   rw [hres]
   rintro v L ⟨q0, q1, q2, z1, rfl, rfl⟩
   refine draw_own 10 rfl (show 0 < y.chans.length by omega) fun gg hgg _ _ => ?_
   refine draw_start tabOk z95 z95 z95 200 [((3, 11), .v (y.h6.val y.chans.length)), ((4, 1), .v (.int .i64 op.on)), ((5, 0), .v (.int .i64 (x1).room)), ((5, 1), .v (q0.val (x1).items.length)), ((5, 2), .v (q1.val (x1).senders.length)), ((5, 3), .v (q2.val (x1).getters.length)), ((5, 4), .v (.bool (x1).closed))] [] [] z104 z116 trivial rfl ?_
   refine d_idxP (ti := tiOf tab) tabOk rfl rfl rfl rfl rfl ⟨rfl, rfl⟩ hgg op.on.toNat hi.symm hjl ?_
   refine d_storeW (ti := tiOf tab) encChanH 10 tabOk rfl rfl rfl rfl rfl rfl rfl rfl hgg op.on.toNat 0 ⟨x1, q0, q1, q2⟩ rfl hjl rfl (cChanH ⟨x1, q0, q1, q2⟩) (fun _ => rfl) z68 z93 ?_
   refine stop_callPG _ [5, 6] (G := [_, _]) cl82 rfl rfl rfl rfl ⟨rfl, rfl⟩ rfl rfl ⟨rfl, rfl, trivial⟩ ⟨rfl, rfl, rfl, rfl, trivial⟩ (fun A w ga hga hW hblk => (goOn_c ga _ _ p y _ _ _ told (y.pure) w hblk (hW.atG [5, 6] (G := [_, _]) ⟨rfl, rfl, trivial⟩ rfl ⟨rfl, rfl, rfl, rfl, trivial⟩ [13, 4] (Fo := [_, _]) z131 rfl) (hW.atG_off z96 hga (ix := [5, 6]) (G := [_, _]) ⟨rfl, rfl, trivial⟩ (jx := [13, 4]) (Fo := [_, _]) z131) rfl rfl hnm hn htold htl hpA hn4)) ?_
   rintro v cs L ⟨rfl, rfl, rfl⟩
   obtain ⟨S1, hS1⟩ : ∃ S1 : State, S1 = if c1 = 1 then sayM (setChan y.pure op x1) v1 else setChan y.pure op x1 := ⟨_, rfl⟩
   have s1 : S1.places = y.pure.places := by rw [hS1]; split <;> rfl
   have s2 : S1.status = y.pure.status := by rw [hS1]; split <;> rfl
   have hD2 : doM p.pure s.pure k = eitherM p.pure (onM p.pure told S1) k (c1 != 0) := by
     rw [hD, doGet, hxa, hres, ← hy]
     show (if c1 = 0 then waitM (setChan y.pure op x1) k 1 else onM p.pure (told ++ [(k : Int)]) (if c1 = 1 then sayM (setChan y.pure op x1) v1 else setChan y.pure op x1)) = _
     rw [← hS1, eitherM]
     by_cases h0 : c1 = 0
     · have := htin.2.2.2 h0
       subst this
       subst h0
       rw [hS1]
       simp [onM]
     · rw [if_neg h0, if_pos (by simpa using h0)]
       exact onM_app _ _ _ _
   have hpu : eitherM p.pure (onM p.pure told S1) k (c1 != 0) = { S1 with places := (eitherM p.pure (onM p.pure told y.pure) k (c1 != 0)).places, status := (eitherM p.pure (onM p.pure told y.pure) k (c1 != 0)).status } := by
     have h1 := onM_eq p.pure told y.pure S1 s1 s2
     rw [eitherM_eq p.pure (onM p.pure told y.pure) (onM p.pure told S1) k (c1 != 0) (by rw [h1]) (by rw [h1]), h1]
   apply CaseB.mk <;> intro g
   · have e1 : c1 = 1 := by simpa using g
     refine stop_callPG _ [11] (G := [_]) cl81 rfl rfl rfl rfl ⟨rfl, rfl⟩ rfl rfl ⟨rfl, trivial⟩ ⟨rfl, rfl, trivial⟩ (fun A w ga hga hW hblk => (say_c ga _ _ p y y.h7 y.said false v1 w hblk (hW.atG [11] (G := [_]) ⟨rfl, trivial⟩ rfl ⟨rfl, rfl, trivial⟩ [] (Fo := []) trivial rfl) (hW.atG_off z96 hga (ix := [11]) (G := [_]) ⟨rfl, trivial⟩ (jx := []) (Fo := []) trivial) (by omega))) ?_
     rintro v cs L ⟨rfl, z9, rfl, rfl⟩
     refine stop_callPG _ [1, 2] (G := [_, _]) cl84 rfl rfl rfl rfl ⟨rfl, rfl⟩ rfl rfl ⟨rfl, rfl, trivial⟩ ⟨rfl, rfl, rfl, rfl, trivial⟩ (fun A w ga hga hW hblk => (either_c ga _ _ p y _ _ k (c1 != 0) (onM p.pure told (y.pure)) w hblk (hW.atG [1, 2] (G := [_, _]) ⟨rfl, rfl, trivial⟩ rfl ⟨rfl, rfl, rfl, rfl, trivial⟩ [13] (Fo := [_]) z137 rfl) (hW.atG_off z96 hga (ix := [1, 2]) (G := [_, _]) ⟨rfl, rfl, trivial⟩ (jx := [13]) (Fo := [_]) z137) ((onM_len _ _ _).1.trans rfl) ((onM_len _ _ _).2.trans rfl) hnm hn hkn (fun x hx => by have := onM_bound p.pure told y.pure 20 (by omega) hp0 x hx; omega) hn4)) ?_
     rintro v cs L ⟨rfl, rfl, rfl⟩
     have hlp : (eitherM p.pure (onM p.pure told (y.pure)) k (c1 != 0)).places.length = y.places.length := ((eitherM_len _ _ _ _).1.trans ((onM_len _ _ _).1.trans rfl))
     have hls : (eitherM p.pure (onM p.pure told (y.pure)) k (c1 != 0)).status.length = y.status.length := ((eitherM_len _ _ _ _).2.trans ((onM_len _ _ _).2.trans rfl))
     apply CaseB.mk <;> intro g
     · have hf : 64 ≤ y.said.length := by simpa using g
       have n : ¬ StepOk p.pure s.pure k := fun e => by
         have h := (hso.1 e).1
         rw [hD2, hpu, hS1, if_pos e1] at h
         have h' : (y.said ++ [v1]).length ≤ 64 := h
         simp at h'
         omega
       refine ret_shift (.joinO [90] (Gs := [_]) ⟨.inr ⟨Nat.le_of_ble_eq_true rfl, zero_nil⟩, trivial⟩ rfl (G := stateO StateH.zero) (.of_eq (by simp))) ?_
       exact retw [0] ⟨StateH.zero, false, rfl, tno n, fun e => z98, fun _ => rfl, rfl⟩ z133 rfl ⟨rfl, trivial⟩ (fun _ => rfl)
     have hf : ¬ 64 ≤ y.said.length := by simpa using g
     obtain ⟨y9, hy9⟩ : ∃ y9 : StateH, y9 = ⟨(eitherM p.pure (onM p.pure told (y.pure)) k (c1 != 0)).places, (eitherM p.pure (onM p.pure told (y.pure)) k (c1 != 0)).status, y.sems, y.onces, y.groups, y.barriers, (y.chans.set op.on.toNat ⟨x1, q0, q1, q2⟩), (saidM y.said v1), y.fault, y.h0, y.h1, y.h2, y.h3, y.h4, y.h5, y.h6, z9⟩ := ⟨_, rfl⟩
     have hP : y9.pure = doM p.pure s.pure k := by
       rw [hD2, hpu, hS1, if_pos e1, hy9]
       simp only [StateH.pure, setChan, sayM, List.map_set, saidM, if_neg hf]
     have h64 : (doM p.pure s.pure k).said.length ≤ 64 := by
       rw [← hP, hy9]
       show (saidM y.said v1).length ≤ 64
       rw [saidM, if_neg hf]
       simp; omega
     have hok : StepOk p.pure s.pure k := hso.2 ⟨h64, hwn (by omega)⟩
     have hsm : y9.pure.small20 := by rw [hP]; exact hok.2.2.2.small
     have hv : stateV y9 = .agg #[y.h0.val y.places.length, y.h1.val y.status.length, y.h2.val y.sems.length, y.h3.val y.onces.length, y.h4.val y.groups.length, y.h5.val y.barriers.length, y.h6.val y.chans.length, (z9).val ((saidM y.said v1)).length, .int .i64 y.fault] := by
       rw [hy9]; simp only [stateV, hlp, hls, List.length_set]
     have hcl := fun w h => stateClone_c y9 w h hsm
     rw [hv] at hcl
     refine stop_call _ cl79 rfl rfl rfl rfl ⟨rfl, rfl⟩ (fun A w hW => hcl w ⟨getR hW (stateR y9 (by rw [hy9]; exact outIn 0 1 8 9 10 11 3 2 rfl rfl rfl rfl rfl rfl rfl rfl) (by rw [hy9]; exact fun g hg => (inner_chan hg).elim (fun h => inO 12 rfl h) (fun h => by simp only [chanO, List.mem_cons, List.not_mem_nil, or_false] at h; rcases h with rfl | rfl | rfl <;> first | exact inF (List.mem_of_getElem? (i := 4) rfl) | exact inF (List.mem_of_getElem? (i := 5) rfl) | exact inF (List.mem_of_getElem? (i := 6) rfl)))), trivial⟩) ?_
     rintro v L ⟨y3, rfl, hy3, rfl⟩
     exact retw [0] ⟨y3, true, rfl, tyes hok, fun _ => hy3.trans hP, fun e => z98, rfl⟩ z133 rfl ⟨rfl, trivial⟩ (fun _ => rfl)
   have e1 : ¬ c1 = 1 := by simpa using g
   refine stop_callPG _ [0, 1] (G := [_, _]) cl84 rfl rfl rfl rfl ⟨rfl, rfl⟩ rfl rfl ⟨rfl, rfl, trivial⟩ ⟨rfl, rfl, rfl, rfl, trivial⟩ (fun A w ga hga hW hblk => (either_c ga _ _ p y _ _ k (c1 != 0) (onM p.pure told (y.pure)) w hblk (hW.atG [0, 1] (G := [_, _]) ⟨rfl, rfl, trivial⟩ rfl ⟨rfl, rfl, rfl, rfl, trivial⟩ [13] (Fo := [_]) z137 rfl) (hW.atG_off z96 hga (ix := [0, 1]) (G := [_, _]) ⟨rfl, rfl, trivial⟩ (jx := [13]) (Fo := [_]) z137) ((onM_len _ _ _).1.trans rfl) ((onM_len _ _ _).2.trans rfl) hnm hn hkn (fun x hx => by have := onM_bound p.pure told y.pure 20 (by omega) hp0 x hx; omega) hn4)) ?_
   rintro v cs L ⟨rfl, rfl, rfl⟩
   have hlp : (eitherM p.pure (onM p.pure told (y.pure)) k (c1 != 0)).places.length = y.places.length := ((eitherM_len _ _ _ _).1.trans ((onM_len _ _ _).1.trans rfl))
   have hls : (eitherM p.pure (onM p.pure told (y.pure)) k (c1 != 0)).status.length = y.status.length := ((eitherM_len _ _ _ _).2.trans ((onM_len _ _ _).2.trans rfl))
   refine CaseB.mk (fun g => by cases g) (fun _ => ?_)
   obtain ⟨y9, hy9⟩ : ∃ y9 : StateH, y9 = ⟨(eitherM p.pure (onM p.pure told (y.pure)) k (c1 != 0)).places, (eitherM p.pure (onM p.pure told (y.pure)) k (c1 != 0)).status, y.sems, y.onces, y.groups, y.barriers, (y.chans.set op.on.toNat ⟨x1, q0, q1, q2⟩), y.said, y.fault, y.h0, y.h1, y.h2, y.h3, y.h4, y.h5, y.h6, y.h7⟩ := ⟨_, rfl⟩
   have hP : y9.pure = doM p.pure s.pure k := by
     rw [hD2, hpu, hS1, if_neg e1, hy9]
     simp only [StateH.pure, setChan, List.map_set]
   have h64 : (doM p.pure s.pure k).said.length ≤ 64 := by
     rw [← hP, hy9]
     exact hsd
   have hok : StepOk p.pure s.pure k := hso.2 ⟨h64, hwn (by omega)⟩
   have hsm : y9.pure.small20 := by rw [hP]; exact hok.2.2.2.small
   have hv : stateV y9 = .agg #[y.h0.val y.places.length, y.h1.val y.status.length, y.h2.val y.sems.length, y.h3.val y.onces.length, y.h4.val y.groups.length, y.h5.val y.barriers.length, y.h6.val y.chans.length, (y.h7).val (y.said).length, .int .i64 y.fault] := by
     rw [hy9]; simp only [stateV, hlp, hls, List.length_set]
   have hcl := fun w h => stateClone_c y9 w h hsm
   rw [hv] at hcl
   refine stop_call _ cl79 rfl rfl rfl rfl ⟨rfl, rfl⟩ (fun A w hW => hcl w ⟨getR hW (stateR y9 z55 (by rw [hy9]; exact fun g hg => (inner_chan hg).elim (fun h => inO 12 rfl h) (fun h => by simp only [chanO, List.mem_cons, List.not_mem_nil, or_false] at h; rcases h with rfl | rfl | rfl <;> first | exact inF (List.mem_of_getElem? (i := 3) rfl) | exact inF (List.mem_of_getElem? (i := 4) rfl) | exact inF (List.mem_of_getElem? (i := 5) rfl)))), trivial⟩) ?_
   rintro v L ⟨y3, rfl, hy3, rfl⟩
   exact retw [0] ⟨y3, true, rfl, tyes hok, fun _ => hy3.trans hP, fun e => z98, rfl⟩ z133 rfl ⟨rfl, trivial⟩ (fun _ => rfl)
 refine CaseB.mk (fun g => ?_) (fun g10 => ?_)
 rotate_left
 · exfalso
   have := r.ok.1
   have := r.ok.2.1
   simp at g1 g2 g3 g4 g5 g6 g7 g8 g9 g10
   omega
 have hk : op.kind = 10 := by simpa using g
 obtain ⟨x, hx, hxa, hv, hval, hi⟩ := r.chan (by omega)
 have hil : op.on.toNat < s.chans.length := by have := (List.getElem?_eq_some_iff.1 hx).1; simpa [StateH.pure] using this
 have hxe : (s.chans[op.on.toNat]'hil).m = x := by have := hx; simp only [StateH.pure, List.getElem?_map, List.getElem?_eq_getElem hil, Option.map_some, Option.some.injEq] at this; exact this
 subst hxe
 have hjl : op.on.toNat < y.chans.length := by have := congrArg List.length hy6; simp at this; omega
 have hnq := fun u (h : ofKey (events s.pure) u = []) => (swap_chans hx (s.chans[op.on.toNat]).m).none h
 have hD : doM p.pure s.pure k = doClose p.pure s.pure k op := by rw [hdm, doOp, if_neg (by omega), if_neg (by omega), if_neg (by omega), if_neg (by omega), if_neg (by omega), if_neg (by omega), if_neg (by omega), if_neg (by omega), if_neg (by omega)]
 have hsm := hv.small
 obtain ⟨x1, told, o1, hres⟩ : ∃ x1 told o1, (s.chans[op.on.toNat]'hil).m.close = (x1, told, o1) := ⟨_, _, _, rfl⟩
 have htin := close_told hv hres
 have htl : told.length ≤ 100 := by omega
 have htold : ∀ u ∈ told, 0 ≤ u ∧ u < (y.places.length : Int) := fun u hu => by
   have := ft.isIn fun h0 => z72
   rw [lt] at this
   omega
 refine stop_idx encChanH tabOk rfl rfl rfl rfl rfl ⟨rfl, rfl⟩ (rdVia 12 rfl (.trans (.R_R (stateO_chans s)) (.ofR nest_h))) op.on.toNat hi.symm z38 (fun ad5 => ?_)
 refine stop_call _ cl93 rfl rfl rfl rfl ⟨rfl, rfl⟩ (fun A w hW => close_c _ _ _ _ w ⟨hW.get 12 rfl (.trans (.R_R (stateO_chans s)) (.ofR (chansO_0 _ _ op.on.toNat hil))), hW.get 12 rfl (.trans (.R_R (stateO_chans s)) (.ofR (chansO_1 _ _ op.on.toNat hil))), hW.get 12 rfl (.trans (.R_R (stateO_chans s)) (.ofR (chansO_2 _ _ op.on.toNat hil))), trivial⟩ hsm) ?_
 rw [hres]
 rintro v L ⟨q0, q1, q2, z1, rfl, rfl⟩
 apply CaseB.mk <;> intro g
 · have e0 : o1 = false := by simpa using g
   have hF : doM p.pure s.pure k = faultM s.pure 4 := by
     rw [hD, doClose, hxa, hres]
     simp [e0]
   have hok : StepOk p.pure s.pure k := hso.2 ⟨by rw [hF]; exact ft.lsaid, hwn (by omega)⟩
   refine stop_callPGc _ [] (G := []) cl80 rfl rfl rfl rfl ⟨rfl, rfl⟩ rfl rfl trivial trivial (fun A w ga hga hW hblk => fault_c 4 ga s w hblk (hW.atG [] (G := []) trivial rfl trivial [16] (Fo := [_]) z121 rfl) (hW.atG_off z96 hga (ix := []) (G := []) trivial (jx := [16]) (Fo := [_]) z121) hs) ?_
   rintro v cs L ⟨y3, rfl, rfl, hy3, rfl⟩
   exact retw [0] ⟨y3, true, rfl, tyes hok, fun _ => hy3.trans hF.symm, fun e => z98, rfl⟩ z133 rfl ⟨rfl, trivial⟩ (fun _ => rfl)
 have e0 : o1 = true := by simpa using g
 refine draw_own 10 rfl (show 0 < y.chans.length by omega) fun gg hgg _ _ => ?_
 refine draw_start tabOk z95 z95 z95 200 [((3, 11), .v (y.h6.val y.chans.length)), ((4, 1), .v (.int .i64 op.on)), ((5, 0), .v (.int .i64 (x1).room)), ((5, 1), .v (q0.val (x1).items.length)), ((5, 2), .v (q1.val (x1).senders.length)), ((5, 3), .v (q2.val (x1).getters.length)), ((5, 4), .v (.bool (x1).closed))] [] [] z104 z116 trivial rfl ?_
 refine d_idxP (ti := tiOf tab) tabOk rfl rfl rfl rfl rfl ⟨rfl, rfl⟩ hgg op.on.toNat hi.symm hjl ?_
 refine d_storeW (ti := tiOf tab) encChanH 10 tabOk rfl rfl rfl rfl rfl rfl rfl rfl hgg op.on.toNat 0 ⟨x1, q0, q1, q2⟩ rfl hjl rfl (cChanH ⟨x1, q0, q1, q2⟩) (fun _ => rfl) z68 z93 ?_
 refine stop_callPG _ [5, 6] (G := [_, _]) cl82 rfl rfl rfl rfl ⟨rfl, rfl⟩ rfl rfl ⟨rfl, rfl, trivial⟩ ⟨rfl, rfl, rfl, rfl, trivial⟩ (fun A w ga hga hW hblk => (goOn_c ga _ _ p y _ _ _ told (y.pure) w hblk (hW.atG [5, 6] (G := [_, _]) ⟨rfl, rfl, trivial⟩ rfl ⟨rfl, rfl, rfl, rfl, trivial⟩ [13, 4] (Fo := [_, _]) z131 rfl) (hW.atG_off z96 hga (ix := [5, 6]) (G := [_, _]) ⟨rfl, rfl, trivial⟩ (jx := [13, 4]) (Fo := [_, _]) z131) rfl rfl hnm hn htold htl hpA hn4)) ?_
 rintro v cs L ⟨rfl, rfl, rfl⟩
 refine AllSl.mk fun zt => ?_
 refine stop_callPG _ [1, 2] (G := [_, _]) cl82 rfl rfl rfl rfl ⟨rfl, rfl⟩ rfl rfl ⟨rfl, rfl, trivial⟩ ⟨rfl, rfl, rfl, rfl, trivial⟩ (fun A w ga hga hW hblk => (goOn_c ga _ _ p y _ _ zt [(k : Int)] (onM p.pure told (y.pure)) w hblk (hW.atG [1, 2] (G := [_, _]) ⟨rfl, rfl, trivial⟩ rfl ⟨rfl, rfl, rfl, rfl, trivial⟩ [14, 0] (Fo := [_, _]) z131 rfl) (hW.atG_off z96 hga (ix := [1, 2]) (G := [_, _]) ⟨rfl, rfl, trivial⟩ (jx := [14, 0]) (Fo := [_, _]) z131) ((onM_len _ _ _).1.trans rfl) ((onM_len _ _ _).2.trans rfl) hnm hn hw1 (by simp) (fun x hx => by have := onM_bound p.pure told y.pure 20 (by omega) hp0 x hx; omega) hn4)) ?_
 rintro v cs L ⟨rfl, rfl, rfl⟩
 have hlp : (onM p.pure [(k : Int)] (onM p.pure told (y.pure))).places.length = y.places.length := ((onM_len _ _ _).1.trans ((onM_len _ _ _).1.trans rfl))
 have hls : (onM p.pure [(k : Int)] (onM p.pure told (y.pure))).status.length = y.status.length := ((onM_len _ _ _).2.trans ((onM_len _ _ _).2.trans rfl))
 refine CaseB.mk (fun g => by cases g) (fun _ => ?_)
 obtain ⟨y9, hy9⟩ : ∃ y9 : StateH, y9 = ⟨(onM p.pure [(k : Int)] (onM p.pure told (y.pure))).places, (onM p.pure [(k : Int)] (onM p.pure told (y.pure))).status, y.sems, y.onces, y.groups, y.barriers, (y.chans.set op.on.toNat ⟨x1, q0, q1, q2⟩), y.said, y.fault, y.h0, y.h1, y.h2, y.h3, y.h4, y.h5, y.h6, y.h7⟩ := ⟨_, rfl⟩
 have hP : y9.pure = doM p.pure s.pure k := by
   rw [hD, doClose, hxa, hres]
   show _ = if o1 = true then onM p.pure (told ++ [(k : Int)]) (setChan s.pure op x1) else faultM s.pure 4
   rw [if_pos e0, ← hy, onM_eq p.pure (told ++ [(k : Int)]) y.pure (setChan y.pure op x1) rfl rfl, onM_app, hy9]
   simp only [StateH.pure, setChan, List.map_set]
 have h64 : (doM p.pure s.pure k).said.length ≤ 64 := by
   rw [← hP, hy9]
   exact hsd
 have hok : StepOk p.pure s.pure k := hso.2 ⟨h64, hwn (by omega)⟩
 have hsm : y9.pure.small20 := by rw [hP]; exact hok.2.2.2.small
 have hv : stateV y9 = .agg #[y.h0.val y.places.length, y.h1.val y.status.length, y.h2.val y.sems.length, y.h3.val y.onces.length, y.h4.val y.groups.length, y.h5.val y.barriers.length, y.h6.val y.chans.length, (y.h7).val (y.said).length, .int .i64 y.fault] := by
   rw [hy9]; simp only [stateV, hlp, hls, List.length_set]
 have hcl := fun w h => stateClone_c y9 w h hsm
 rw [hv] at hcl
 refine stop_call _ cl79 rfl rfl rfl rfl ⟨rfl, rfl⟩ (fun A w hW => hcl w ⟨getR hW (stateR y9 (by rw [hy9]; exact outIn 0 1 8 9 10 11 3 12 rfl rfl rfl rfl rfl rfl rfl rfl) (by rw [hy9]; exact fun g hg => (inner_chan hg).elim (fun h => inO 13 rfl h) (fun h => by simp only [chanO, List.mem_cons, List.not_mem_nil, or_false] at h; rcases h with rfl | rfl | rfl <;> first | exact inF (List.mem_of_getElem? (i := 4) rfl) | exact inF (List.mem_of_getElem? (i := 5) rfl) | exact inF (List.mem_of_getElem? (i := 6) rfl)))), trivial⟩) ?_
 rintro v L ⟨y3, rfl, hy3, rfl⟩
 exact retw [0] ⟨y3, true, rfl, tyes hok, fun _ => hy3.trans hP, fun e => z98, rfl⟩ z133 rfl ⟨rfl, trivial⟩ (fun _ => rfl)
def progZ : Prog := ⟨[], [], [], [], []⟩
def progHZ : ProgH := ⟨[], [], [], [], [], ⟨none, 0⟩, ⟨none, 0⟩, ⟨none, 0⟩, ⟨none, 0⟩, ⟨none, 0⟩⟩
def linesL (ls : List Str) : List Str := (ls.take (ls.length - 1)).take 9
theorem foldl_take {α β : Type} (f : β → α → β) (z : β) (l : List α) {k : Nat} (h : k < l.length) : (l.take (k + 1)).foldl f z = f ((l.take k).foldl f z) l[k] := by
 rw [List.take_succ_eq_append_getElem h, List.foldl_append]; rfl
set_option maxHeartbeats 32000000 in
set_option maxRecDepth 100000 in
theorem parseProg_c (t : Str) (w : World) (hb : t.length ≤ 1000) (ok : ProgOk (parseM t)) (hf : fmtProgM (parseM t) = t) :
   Calls Tryz.prog 123 #[.string (bs t)] w (Ret w fun v L => ∃ p : ProgH, v = .tuple #[progV p, .bool true] ∧ p.pure = parseM t ∧ L = [fO (progO p)]) := by
 have hcl := cutM_len 10 t
 have hpt : ∀ x ∈ cutM 10 t, x.length ≤ 1000 := fun x hx => Nat.le_trans (cutM_part hx) hb
 have hM : parseM t = (linesL (cutM 10 t)).foldl stepL progZ := rfl
 generalize parseM t = M at ok hf hM ⊢
 refine calls1 Tryz.func123 rfl tabOk w _ rfl _ rfl [] trivial trivial _ (by decide) ?_
 refine stop_call _ cl161 rfl rfl rfl rfl ⟨rfl, rfl⟩ (fun A w hW => (cut_c t 10 w (by omega))) ?_
 rintro v L ⟨y, rfl, rfl⟩
 generalize cutM 10 t = ls at hcl hpt hM ⊢
 have hLl : (linesL ls).length ≤ 9 ∧ (linesL ls).length + 1 ≤ ls.length ∧ ((linesL ls).length = 9 ∨ (linesL ls).length + 1 = ls.length) := by
   simp only [linesL, List.length_take]; omega
 have hLi : ∀ (i : Nat) (h : i < (linesL ls).length) (h2 : i < ls.length), (linesL ls)[i] = ls[i] := fun i h h2 => by simp [linesL]
 generalize linesL ls = Ls at hM hLl hLi
 refine LoopW.mk ⟨{ q : Nat × ProgH // q.1 ≤ Ls.length ∧ q.2.pure = (Ls.take q.1).foldl stepL progZ ∧ q.2.threads.length ≤ q.1 },
   fun q => .mk [(0, .v (.string (bs t))), (2, .p 0 0), (4, .v (y.val ls.length)), (5, .p 1 0), (6, .v (.int .i64 (q.1.1 : Int)))] 2 0 [(0, 37, 5), (1, 37, 5)] [((1, 0), .v (q.1.2.h0.val q.1.2.sems.length)), ((1, 1), .v (q.1.2.h1.val q.1.2.groups.length)), ((1, 2), .v (q.1.2.h2.val q.1.2.barriers.length)), ((1, 3), .v (q.1.2.h3.val q.1.2.rooms.length)), ((1, 4), .v (q.1.2.h4.val q.1.2.threads.length))] [own q.1.2.h0 3 cInt 1 q.1.2.sems, own q.1.2.h1 3 cInt 1 q.1.2.groups, own q.1.2.h2 3 cInt 1 q.1.2.barriers, own q.1.2.h3 3 cInt 1 q.1.2.rooms, own q.1.2.h4 47 cOpSH 1 q.1.2.threads, fO (q.1.2.threads.flatMap opSO), own y 9 cTxt 1 ls],
   fun q => Ls.length - q.1.1, ⟨(0, progHZ), Nat.zero_le _, rfl, Nat.le_refl _⟩, ?_, ?_⟩
 · refine weak_shift (.joinO [] (Gs := []) trivial rfl (.refl _)) ?_
   exact weak_mk [95, 96, 97, 98, 99, 0, 1] zw2 zw0 zw2 zw5 zw4 rfl rfl
 rintro ⟨⟨i, p⟩, i1, i2, i3⟩
 simp only at i1 i2 i3 ⊢
 have hw0 : IntKind.i64.wrap ((i : Int) + 1) = ((i + 1 : Nat) : Int) := e_succ i 100 (by omega) (by omega)
 apply CaseB.mk <;> intro g
 refine CaseB.mk (fun g2 => ?_) (fun g2 => ?_)
 · rw [hw0] at g
   have hlt : i < ls.length := by have := of_decide_eq_true g; omega
   have hiL : i < Ls.length := by have := of_decide_eq_true g; have := of_decide_eq_true g2; omega
   have hst := foldl_take stepL progZ Ls hiL
   rw [← i2, hLi i hiL hlt] at hst
   obtain ⟨ln, hln⟩ : ∃ ln, ln = ls[i] := ⟨_, rfl⟩
   have hll : ln.length ≤ 1000 := by rw [hln]; exact hpt _ (List.getElem_mem hlt)
   rw [← hln] at hst
   refine stop_idx encTxt tabOk rfl rfl rfl rfl rfl ⟨rfl, rfl⟩ (rdOwnAt 6 rfl) i rfl z38 (fun ad0 => ?_)
   rw [← hln]
   refine stop_call _ cl162 rfl rfl rfl rfl ⟨rfl, rfl⟩ (fun A w hW => (line_c ln [115, 101, 109, 115] w hll)) ?_
   rintro v L ⟨z0, n0, b0, rfl, f0, t0, rfl⟩
   refine stop_idx encTxt tabOk rfl rfl rfl rfl rfl ⟨rfl, rfl⟩ (rdOwnAt 7 rfl) i rfl z38 (fun ad1 => ?_)
   rw [← hln]
   refine stop_call _ cl162 rfl rfl rfl rfl ⟨rfl, rfl⟩ (fun A w hW => (line_c ln [103, 114, 111, 117, 112, 115] w hll)) ?_
   rintro v L ⟨z1, n1, b1, rfl, f1, t1, rfl⟩
   refine stop_idx encTxt tabOk rfl rfl rfl rfl rfl ⟨rfl, rfl⟩ (rdOwnAt 8 rfl) i rfl z38 (fun ad2 => ?_)
   rw [← hln]
   refine stop_call _ cl162 rfl rfl rfl rfl ⟨rfl, rfl⟩ (fun A w hW => (line_c ln [98, 97, 114, 114, 105, 101, 114, 115] w hll)) ?_
   rintro v L ⟨z2, n2, b2, rfl, f2, t2, rfl⟩
   refine stop_idx encTxt tabOk rfl rfl rfl rfl rfl ⟨rfl, rfl⟩ (rdOwnAt 9 rfl) i rfl z38 (fun ad3 => ?_)
   rw [← hln]
   refine stop_call _ cl162 rfl rfl rfl rfl ⟨rfl, rfl⟩ (fun A w hW => (line_c ln [114, 111, 111, 109, 115] w hll)) ?_
   rintro v L ⟨z3, n3, b3, rfl, f3, t3, rfl⟩
   refine stop_idx encTxt tabOk rfl rfl rfl rfl rfl ⟨rfl, rfl⟩ (rdOwnAt 10 rfl) i rfl z38 (fun ad4 => ?_)
   rw [← hln]
   refine stop_call _ cl163 rfl rfl rfl rfl ⟨rfl, rfl⟩ (fun A w hW => (threadP_c ln w hll)) ?_
   rintro v L ⟨z4, n4, b4, rfl, f4, t4, rfl⟩
   refine CaseB.mk (fun e0 => ?_) (fun e0 => ?_)
   · have hn : stepL p.pure ln = (ProgH.pure { p with sems := n0, h0 := z0 }) := by simp only [stepL, t0 e0]; rfl
     refine ⟨⟨(i + 1, { p with sems := n0, h0 := z0 }), hiL, by rw [hst, hn], show p.threads.length ≤ i + 1 by omega⟩, ?_, by simp only; omega⟩
     exact weak_mk [4, 6, 7, 8, 9, 10, 11] zw7 zw0 zw7 zw5 zw14 rfl rfl
   refine CaseB.mk (fun e1 => ?_) (fun e1 => ?_)
   · have hn : stepL p.pure ln = (ProgH.pure { p with groups := n1, h1 := z1 }) := by simp only [stepL, f0 e0, t1 e1]; rfl
     refine ⟨⟨(i + 1, { p with groups := n1, h1 := z1 }), hiL, by rw [hst, hn], show p.threads.length ≤ i + 1 by omega⟩, ?_, by simp only; omega⟩
     exact weak_mk [5, 3, 7, 8, 9, 10, 11] zw7 zw0 zw7 zw5 zw14 rfl rfl
   refine CaseB.mk (fun e2 => ?_) (fun e2 => ?_)
   · have hn : stepL p.pure ln = (ProgH.pure { p with barriers := n2, h2 := z2 }) := by simp only [stepL, f0 e0, f1 e1, t2 e2]; rfl
     refine ⟨⟨(i + 1, { p with barriers := n2, h2 := z2 }), hiL, by rw [hst, hn], show p.threads.length ≤ i + 1 by omega⟩, ?_, by simp only; omega⟩
     exact weak_mk [5, 6, 2, 8, 9, 10, 11] zw7 zw0 zw7 zw5 zw14 rfl rfl
   refine CaseB.mk (fun e3 => ?_) (fun e3 => ?_)
   · have hn : stepL p.pure ln = (ProgH.pure { p with rooms := n3, h3 := z3 }) := by simp only [stepL, f0 e0, f1 e1, f2 e2, t3 e3]; rfl
     refine ⟨⟨(i + 1, { p with rooms := n3, h3 := z3 }), hiL, by rw [hst, hn], show p.threads.length ≤ i + 1 by omega⟩, ?_, by simp only; omega⟩
     exact weak_mk [5, 6, 7, 1, 9, 10, 11] zw7 zw0 zw7 zw5 zw14 rfl rfl
   refine CaseB.mk (fun e4 => ?_) (fun e4 => ?_)
   · refine AllSl.mk fun b5 => ?_
     obtain ⟨x, hx⟩ : ∃ x : OpSH, x = ⟨n4, z4⟩ := ⟨_, rfl⟩
     refine stop_app encOpSH 10 tabOk (xs := p.threads) (ys := [⟨n4, z4⟩]) rfl rfl rfl rfl rfl rfl rfl rfl rfl (by decide) ⟨rfl, rfl⟩ rfl z30 z38 z38 (fun z5 => ?_)
     rw [← hx]
     have hn : stepL p.pure ln = (ProgH.pure { p with threads := p.threads ++ [x], h4 := z5 }) := by simp only [stepL, f0 e0, f1 e1, f2 e2, f3 e3, t4 e4]; subst hx; simp [ProgH.pure]
     refine ⟨⟨(i + 1, { p with threads := p.threads ++ [x], h4 := z5 }), hiL, by rw [hst, hn], by simp; omega⟩, ?_, by simp only; omega⟩
     refine weak_shift (.joinO [2, 11] (Gs := [[_], _]) z126 rfl (G := (p.threads ++ [x]).flatMap opSO) (by subst hx; rw [List.flatMap_append]; exact (List.Perm.of_eq (by simp [opSO])).trans List.perm_append_comm)) ?_
     exact weak_mk [7, 8, 9, 10, 1, 0, 11] zw7 zw0 zw7 zw5 zw14 rfl rfl
   have hn : stepL p.pure ln = p.pure := by simp only [stepL, f0 e0, f1 e1, f2 e2, f3 e3, f4 e4]
   refine ⟨⟨(i + 1, p), hiL, by rw [hst, hn], show p.threads.length ≤ i + 1 by omega⟩, ?_, by simp only; omega⟩
   exact weak_mk [5, 6, 7, 8, 9, 10, 11] zw7 zw0 zw7 zw5 zw14 rfl rfl
 have hie : i = Ls.length := by have := of_decide_eq_false g2; omega
 rotate_left
 have hie : i = Ls.length := by rw [hw0] at g; have := of_decide_eq_false g; omega
 rotate_left
 all_goals
   rw [hie, List.take_length, ← hM] at i2
   have sz : p.sems.length ≤ 3 ∧ p.groups.length ≤ 3 ∧ p.barriers.length ≤ 3 ∧ p.rooms.length ≤ 3 := by
     rw [← i2] at ok; exact ⟨ok.sems.1, ok.groups.1, ok.barriers.1, ok.rooms.1⟩
   refine stop_shift (.joinO [0, 1, 2, 3, 4, 5] (Gs := [[_], [_], [_], [_], [_], _]) ⟨.inl ⟨_, rfl, .own⟩, .inl ⟨_, rfl, .own⟩, .inl ⟨_, rfl, .own⟩, .inl ⟨_, rfl, .own⟩, .inl ⟨_, rfl, .own⟩, .inl ⟨_, rfl, .o⟩, trivial⟩ rfl (G := progO p) (.of_eq (by simp [progO, threadsO, nestO]))) ?_
   refine stop_call _ cl65 rfl rfl rfl rfl ⟨rfl, rfl⟩ (fun A w hW => progValidS_c p w ⟨hW.get 0 rfl (.O_R fun _ h => h), trivial⟩ ⟨by omega, by omega, by omega, by omega⟩) ?_
   rintro v L ⟨b0, rfl, hb0, rfl⟩
   rw [i2] at hb0
   refine CaseB.mk (fun g3 => by rw [hb0.2 ok] at g3; cases g3) (fun _ => ?_)
   refine stop_call _ cl164 rfl rfl rfl rfl ⟨rfl, rfl⟩ (fun A w hW => (fmtProg_c p w ⟨hW.get 0 rfl (.O_R fun _ h => h), trivial⟩ (by rw [i2]; exact ok))) ?_
   rintro v L ⟨rfl, rfl⟩
   rw [i2, hf]
   refine stop_bin rfl rfl rfl ⟨rfl, rfl⟩ (.bool (t != t)) (fun w => eqGuard_str w) (fun w => sne_run w) ?_
   refine CaseB.mk (fun g4 => by simp at g4) (fun _ => ?_)
   exact retw [0] ⟨p, rfl, i2, rfl⟩ z133 rfl ⟨rfl, trivial⟩ (fun _ => rfl)
end Go.Proofs.YtjkkoonennpceaaGreat
